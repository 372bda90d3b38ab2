/-
  How a call has ended, as the reference writes it (result).
-/
import Derived.Test.YtekgdlpicgibhabDoorV10
namespace Go.Proofs.YtekgdlpicgibhabDoor.SH
open Go.RowKit Go.Proofs.YtekgdlpicgibhabDoorW.PrintWords PT PWorldShows

/-- The reference's text of a result's first k rows. -/
noncomputable def resTo (r : Rs) (k : Nat) : List UInt8 :=
  spaced (([r.call, r.op, r.status, r.handle, r.aid, r.akind, r.asize, r.achange, moreI r.more].map Lib.itoa) ++ [(textOf (strOfNums r.data)).data.toList] ++ (rowW (r.list.take k)).map fun x => x.text.data.toList)
theorem resTo_all (r : Rs) : resTo r r.list.length = resText r := by unfold resTo resText; rw [List.take_length]
theorem moreI_ok (b : Bool) : IntR (moreI b) := by unfold moreI IntR; cases b <;> simp
theorem nine_ok {w : World} {r : Rs} {A : Option Addr} {c : Nat} {L : Option Addr} {d : Nat} (h : RsIn w r A c L d) : ∀ x ∈ [r.call, r.op, r.status, r.handle, r.aid, r.akind, r.asize, r.achange, moreI r.more], IntR x := by
  intro x hx
  simp only [List.mem_cons, List.not_mem_nil, or_false] at hx
  rcases hx with rfl | rfl | rfl | rfl | rfl | rfl | rfl | rfl | rfl
  · exact h.call
  · exact h.op
  · exact h.status
  · exact h.handle
  · exact h.aid
  · exact h.akind
  · exact h.asize
  · exact h.achange
  · exact moreI_ok _
theorem resTo_le {w : World} {r : Rs} {A : Option Addr} {c : Nat} {L : Option Addr} {d : Nat} (h : RsIn w r A c L d) (k : Nat) : (resTo r k).length ≤ 140737488355328 := by
  unfold resTo
  have hd := h.dlen
  have hl := h.list.len
  have ht := textOf_le (strOfNums r.data)
  rw [strOfNums_size] at ht
  refine Nat.le_trans (spaced_le_of _ 4194306 (fun x hx => ?_)) ?_
  · rcases List.mem_append.1 hx with hx | hx
    · rcases List.mem_append.1 hx with hx | hx
      · rw [List.mem_map] at hx
        obtain ⟨n, hn, rfl⟩ := hx
        exact Nat.le_trans (itoa_le22 _ (nine_ok h n hn)) (by omega)
      · rw [List.mem_singleton] at hx
        subst hx
        exact Nat.le_trans ht (by omega)
    · rw [List.mem_map] at hx
      obtain ⟨y, hy, rfl⟩ := hx
      exact (rowW_ok (fun z hz => h.list.ok z (List.take_subset _ _ hz)) y hy).2
  · simp only [List.length_append, List.length_map, rowW_len, List.length_take, List.length_cons, List.length_nil]
    omega
theorem resTo_0 (r : Rs) : by_ (spaced ([r.call, r.op, r.status, r.handle, r.aid, r.akind, r.asize, r.achange, moreI r.more].map Lib.itoa)) ++ ⟨#[32]⟩ ++ textOf (strOfNums r.data) = by_ (resTo r 0) := by
  unfold resTo
  rw [← by_toList (textOf (strOfNums r.data)), show (⟨#[32]⟩ : ByteArray) = by_ [32] from rfl, by_app, by_app, by_data]
  congr 1
  simp [spaced, rowW]
theorem resTo_succ (r : Rs) (k : Nat) (x : Ln) (h : r.list[k]? = some x) : by_ (resTo r k) ++ ⟨#[32]⟩ ++ textOf x.name ++ by_ (spaced ([x.id, x.kind].map Lib.itoa)) = by_ (resTo r (k + 1)) := by
  unfold resTo
  obtain ⟨T, hT⟩ : ∃ T, T = textOf x.name := ⟨_, rfl⟩
  rw [rowW_snoc _ _ _ h, ← hT]
  have e : T = by_ T.data.toList := (by_toList T).symm
  conv => lhs; rw [e]
  rw [show (⟨#[32]⟩ : ByteArray) = by_ [32] from rfl, by_app, by_app, by_app]
  congr 1
  simp [spaced, Wd.text, by_data]
theorem chainA {wr w14 w11 : World} {o : Obj} (h14 : Below wr.drew.heap.size wr.drew w14) (h11 : Below (w14.alloc o).heap.size (w14.alloc o) w11) : Below wr.heap.size wr w11 :=
  below_then (below_then (below_then (below_drew (Below.refl wr.heap.size wr)) (Nat.le_refl wr.heap.size) h14) h14.size (below_alloc (Below.refl _ _) o)) (Nat.le_trans h14.size (by rw [alloc_size]; omega)) h11
theorem chainB {wr w14 w11 : World} {o : Obj} (h14 : Below (wr.drew.alloc o).heap.size (wr.drew.alloc o) w14) (h11 : Below w14.heap.size w14 w11) : Below wr.heap.size wr w11 :=
  below_then (below_then (below_then (below_drew (Below.refl wr.heap.size wr)) (Nat.le_refl wr.heap.size) (below_alloc (Below.refl wr.drew.heap.size wr.drew) o)) (by rw [alloc_size]; exact Nat.le_succ _) h14) (Nat.le_trans (by rw [alloc_size]; exact Nat.le_succ _) h14.size) h11
set_option maxRecDepth 100000 in
set_option maxHeartbeats 8000000 in
theorem result13 {B : Nat} (r : Rs) (A : Option Addr) (c : Nat) (L : Option Addr) (d : Nat) (w : World) (hT : Tabs B w) (hB : B ≤ w.heap.size) (hr : RsIn w r A c L d) :
    Calls Tryd.prog 13 #[.agg (r.cells A c L d).toArray] w fun e w' => e = .returned (.string (by_ (resText r))) ∧ Below w.heap.size w w' := by
  have hle := resTo_le hr
  have hok := nine_ok hr
  have h0 := resTo_0 r
  have hsu := resTo_succ r
  have hal := resTo_all r
  have HLE := Lib.hid hle
  have HOK := Lib.hid hok
  have H0 := Lib.hid h0
  have HSU := Lib.hid hsu
  have HAL := Lib.hid hal
  have hll := hr.list.len
  have hdl := hr.dlen
  have ht9 := spaced_le _ hok
  have htx := textOf_le (strOfNums r.data)
  rw [strOfNums_size] at htx
  obtain ⟨call, op, status, handle, aid, akind, asize, achange, data, list, more⟩ := r
  have HT := Lib.hid hT
  have HB := Lib.hid hB
  have HR := Lib.hid hr
  have hll' : list.length ≤ 1048576 := hll
  have hdl' : data.length ≤ 1048576 := hdl
  clear hT hB hr hok h0 hsu hal hle hll hdl
  simp only [Rs.cells]
  cases more with
  | true =>
    have hA := below_alloc (Below.refl w.heap.size w) (.cells #[.int .i64 call, .int .i64 op, .int .i64 status, .int .i64 handle, .int .i64 aid, .int .i64 akind, .int .i64 asize, .int .i64 achange, .slice A data.length c, .slice L list.length d, .bool true] 30)
    have hA2 := below_alloc hA (.cells #[.int .i64 aid, .int .i64 akind, .int .i64 asize, .int .i64 achange] 27)
    have hblk := Go.heap_alloc_new w (.cells #[.int .i64 call, .int .i64 op, .int .i64 status, .int .i64 handle, .int .i64 aid, .int .i64 akind, .int .i64 asize, .int .i64 achange, .slice A data.length c, .slice L list.length d, .bool true] 30)
    obtain ⟨y0, y1, y2, y3, y4, y5, y6, y7, y8, y9, y10⟩ := cells11 hblk
    clear y4 y5 y6 y7 hblk hA
    have hn2 : (w.alloc (.cells #[.int .i64 call, .int .i64 op, .int .i64 status, .int .i64 handle, .int .i64 aid, .int .i64 akind, .int .i64 asize, .int .i64 achange, .slice A data.length c, .slice L list.length d, .bool true] 30)).heap.size = w.heap.size + 1 := alloc_size _ _
    have z0 : ((w.alloc (.cells #[.int .i64 call, .int .i64 op, .int .i64 status, .int .i64 handle, .int .i64 aid, .int .i64 akind, .int .i64 asize, .int .i64 achange, .slice A data.length c, .slice L list.length d, .bool true] 30)).alloc (.cells #[.int .i64 aid, .int .i64 akind, .int .i64 asize, .int .i64 achange] 27)).cell? ⟨w.heap.size + 1, 0, none⟩ = some (.int .i64 aid) := hn2 ▸ cellB (Go.heap_alloc_new (w.alloc (.cells #[.int .i64 call, .int .i64 op, .int .i64 status, .int .i64 handle, .int .i64 aid, .int .i64 akind, .int .i64 asize, .int .i64 achange, .slice A data.length c, .slice L list.length d, .bool true] 30)) (.cells #[.int .i64 aid, .int .i64 akind, .int .i64 asize, .int .i64 achange] 27)) 0
    have z1 : ((w.alloc (.cells #[.int .i64 call, .int .i64 op, .int .i64 status, .int .i64 handle, .int .i64 aid, .int .i64 akind, .int .i64 asize, .int .i64 achange, .slice A data.length c, .slice L list.length d, .bool true] 30)).alloc (.cells #[.int .i64 aid, .int .i64 akind, .int .i64 asize, .int .i64 achange] 27)).cell? ⟨w.heap.size + 1, 1, none⟩ = some (.int .i64 akind) := hn2 ▸ cellB (Go.heap_alloc_new (w.alloc (.cells #[.int .i64 call, .int .i64 op, .int .i64 status, .int .i64 handle, .int .i64 aid, .int .i64 akind, .int .i64 asize, .int .i64 achange, .slice A data.length c, .slice L list.length d, .bool true] 30)) (.cells #[.int .i64 aid, .int .i64 akind, .int .i64 asize, .int .i64 achange] 27)) 1
    have z2 : ((w.alloc (.cells #[.int .i64 call, .int .i64 op, .int .i64 status, .int .i64 handle, .int .i64 aid, .int .i64 akind, .int .i64 asize, .int .i64 achange, .slice A data.length c, .slice L list.length d, .bool true] 30)).alloc (.cells #[.int .i64 aid, .int .i64 akind, .int .i64 asize, .int .i64 achange] 27)).cell? ⟨w.heap.size + 1, 2, none⟩ = some (.int .i64 asize) := hn2 ▸ cellB (Go.heap_alloc_new (w.alloc (.cells #[.int .i64 call, .int .i64 op, .int .i64 status, .int .i64 handle, .int .i64 aid, .int .i64 akind, .int .i64 asize, .int .i64 achange, .slice A data.length c, .slice L list.length d, .bool true] 30)) (.cells #[.int .i64 aid, .int .i64 akind, .int .i64 asize, .int .i64 achange] 27)) 2
    have z3 : ((w.alloc (.cells #[.int .i64 call, .int .i64 op, .int .i64 status, .int .i64 handle, .int .i64 aid, .int .i64 akind, .int .i64 asize, .int .i64 achange, .slice A data.length c, .slice L list.length d, .bool true] 30)).alloc (.cells #[.int .i64 aid, .int .i64 akind, .int .i64 asize, .int .i64 achange] 27)).cell? ⟨w.heap.size + 1, 3, none⟩ = some (.int .i64 achange) := hn2 ▸ cellB (Go.heap_alloc_new (w.alloc (.cells #[.int .i64 call, .int .i64 op, .int .i64 status, .int .i64 handle, .int .i64 aid, .int .i64 akind, .int .i64 asize, .int .i64 achange, .slice A data.length c, .slice L list.length d, .bool true] 30)) (.cells #[.int .i64 aid, .int .i64 akind, .int .i64 asize, .int .i64 achange] 27)) 3
    go_enter Tryd.func13, Tryd.ntmps13
    go_upto_region 5 with (fail)
    clear y10 hn2
    replace y0 : ((w.alloc (.cells #[.int .i64 call, .int .i64 op, .int .i64 status, .int .i64 handle, .int .i64 aid, .int .i64 akind, .int .i64 asize, .int .i64 achange, .slice A data.length c, .slice L list.length d, .bool true] 30)).alloc (.cells #[.int .i64 aid, .int .i64 akind, .int .i64 asize, .int .i64 achange] 27)).cell? ⟨w.heap.size, 0, none⟩ = some (.int .i64 call) := cell_on (below_alloc (Below.refl _ _) _) y0
    replace y1 : ((w.alloc (.cells #[.int .i64 call, .int .i64 op, .int .i64 status, .int .i64 handle, .int .i64 aid, .int .i64 akind, .int .i64 asize, .int .i64 achange, .slice A data.length c, .slice L list.length d, .bool true] 30)).alloc (.cells #[.int .i64 aid, .int .i64 akind, .int .i64 asize, .int .i64 achange] 27)).cell? ⟨w.heap.size, 1, none⟩ = some (.int .i64 op) := cell_on (below_alloc (Below.refl _ _) _) y1
    replace y2 : ((w.alloc (.cells #[.int .i64 call, .int .i64 op, .int .i64 status, .int .i64 handle, .int .i64 aid, .int .i64 akind, .int .i64 asize, .int .i64 achange, .slice A data.length c, .slice L list.length d, .bool true] 30)).alloc (.cells #[.int .i64 aid, .int .i64 akind, .int .i64 asize, .int .i64 achange] 27)).cell? ⟨w.heap.size, 2, none⟩ = some (.int .i64 status) := cell_on (below_alloc (Below.refl _ _) _) y2
    replace y3 : ((w.alloc (.cells #[.int .i64 call, .int .i64 op, .int .i64 status, .int .i64 handle, .int .i64 aid, .int .i64 akind, .int .i64 asize, .int .i64 achange, .slice A data.length c, .slice L list.length d, .bool true] 30)).alloc (.cells #[.int .i64 aid, .int .i64 akind, .int .i64 asize, .int .i64 achange] 27)).cell? ⟨w.heap.size, 3, none⟩ = some (.int .i64 handle) := cell_on (below_alloc (Below.refl _ _) _) y3
    replace y8 : ((w.alloc (.cells #[.int .i64 call, .int .i64 op, .int .i64 status, .int .i64 handle, .int .i64 aid, .int .i64 akind, .int .i64 asize, .int .i64 achange, .slice A data.length c, .slice L list.length d, .bool true] 30)).alloc (.cells #[.int .i64 aid, .int .i64 akind, .int .i64 asize, .int .i64 achange] 27)).cell? ⟨w.heap.size, 8, none⟩ = some (.slice A data.length c) := cell_on (below_alloc (Below.refl _ _) _) y8
    replace y9 : ((w.alloc (.cells #[.int .i64 call, .int .i64 op, .int .i64 status, .int .i64 handle, .int .i64 aid, .int .i64 akind, .int .i64 asize, .int .i64 achange, .slice A data.length c, .slice L list.length d, .bool true] 30)).alloc (.cells #[.int .i64 aid, .int .i64 akind, .int .i64 asize, .int .i64 achange] 27)).cell? ⟨w.heap.size, 9, none⟩ = some (.slice L list.length d) := cell_on (below_alloc (Below.refl _ _) _) y9
    have hsz : w.heap.size + 1 < ((w.alloc (.cells #[.int .i64 call, .int .i64 op, .int .i64 status, .int .i64 handle, .int .i64 aid, .int .i64 akind, .int .i64 asize, .int .i64 achange, .slice A data.length c, .slice L list.length d, .bool true] 30)).alloc (.cells #[.int .i64 aid, .int .i64 akind, .int .i64 asize, .int .i64 achange] 27)).heap.size := by simp only [alloc_size]; omega
    generalize (w.alloc (.cells #[.int .i64 call, .int .i64 op, .int .i64 status, .int .i64 handle, .int .i64 aid, .int .i64 akind, .int .i64 asize, .int .i64 achange, .slice A data.length c, .slice L list.length d, .bool true] 30)).alloc (.cells #[.int .i64 aid, .int .i64 akind, .int .i64 asize, .int .i64 achange] 27) = w2 at *
    have HA2 := Lib.hid hA2
    clear hA2
    have H11 := Lib.hid (nums_new (B := B) [call, op, status, handle, aid, akind, asize, achange, 1] w2 (#[.int .i64 call, .int .i64 op, .int .i64 status, .int .i64 handle, .int .i64 aid, .int .i64 akind, .int .i64 asize, .int .i64 achange, .int .i64 1]) 3 9 9 rfl rfl (HT.out.on_up HB.out HA2.out) (Nat.le_trans HB.out HA2.out.size) (by simp) HOK.out)
    obtain ⟨T1, hT1⟩ : ∃ T1, T1 = by_ (spaced ([call, op, status, handle, aid, akind, asize, achange, 1].map Lib.itoa)) := ⟨_, rfl⟩
    have hT1s : T1.size ≤ 22 * 9 := by rw [hT1, by_size]; exact ht9
    rw [← hT1] at H11
    have HT1 := Lib.hid hT1
    have hcv := fun (W : World) (h : Kd.C (Kd.int .u8) W A data.length data) => Kd.C_string (P := Tryd.prog) (c := c) Tryd.underlying23 Tryd.underlying5 Tryd.underlying9 h
    have hrd2 := (HR.out.on HA2.out).rd
    replace hrd2 : Kd.C (Kd.int .u8) w2 A data.length data := hrd2
    have HRD2 := Lib.hid hrd2
    clear hT1 hrd2 hcv ht9
    go_upto_region 6 with (go_at_call 11; refine H11.out.mono ?_; rintro e w3 ⟨rfl, hd3⟩)
    have HD3 := Lib.hid hd3
    have x9 := cell_on hd3 y9
    have x8 := cell_on hd3 y8
    clear hd3 y0 y1 y2 y3 y8 y9 z0 z1 z2 z3
    have hcv := Kd.C_string (P := Tryd.prog) (c := c) Tryd.underlying23 Tryd.underlying5 Tryd.underlying9 (Kd.C_below HRD2.out HD3.out)
    go_wp2_with (go_at_call 14; refine (text8 (strOfNums data) _ (by rw [strOfNums_size]; exact hdl')).mono ?_; rintro e w4 ⟨rfl, hd4⟩; have q9 := cell_on hd4 x9; have HD4 := Lib.hid hd4; clear hd4 hcv)
    have hbw4 := below_then (below_then HA2.out HA2.out.size HD3.out) (Nat.le_trans HA2.out.size HD3.out.size) HD4.out
    have HBW4 := Lib.hid hbw4
    have hsT := HT1.out ▸ H0.out
    have HST := Lib.hid hsT
    clear hsT hbw4
    go_loopw [5, 6] (fun v i wr => ∃ (k : Nat) (S : ByteArray), k ≤ list.length ∧ i = .int .i64 k ∧ v = .string S ∧ S = by_ (resTo ⟨call, op, status, handle, aid, akind, asize, achange, data, list, true⟩ k) ∧ wr.cell? ⟨w.heap.size, 9, none⟩ = some (.slice L list.length d) ∧ Below w.heap.size w wr) (fun _ i _ => list.length - (intOf i).toNat)
    case atStart => exact ⟨0, _, Nat.zero_le _, rfl, rfl, HST.out, q9, HBW4.out⟩
    case round =>
      obtain ⟨k, S, hk, rfl, rfl, hS, x9, hBw⟩ := hrel
      have HBW := Lib.hid hBw
      have hsz : S.size ≤ 140737488355328 := by rw [hS, by_size]; exact HLE.out k
      have HS := Lib.hid hS
      clear hBw hS q9
      by_cases hlt : k < list.length
      · obtain ⟨x, hx⟩ : ∃ x, list[k]? = some x := ⟨list[k], by simp [hlt]⟩
        obtain ⟨ad, rfl, hcs⟩ := (HR.out.list.on HBW.out).at_ (by show 0 < list.length; omega)
        obtain ⟨c1, c2, c3⟩ := hcs k x hx
        have hxo := HR.out.list.ok x (List.mem_of_getElem? hx)
        have hxt := textOf_le x.name
        have hx1 := hxo.1
        have hsx := spaced_le [x.id, x.kind] (by intro n hn; simp only [List.mem_cons, List.not_mem_nil, or_false] at hn; rcases hn with rfl | rfl; exact hxo.2.1; exact hxo.2.2)
        have hxr : ∀ n ∈ [x.id, x.kind], IntR n := by intro n hn; simp only [List.mem_cons, List.not_mem_nil, or_false] at hn; rcases hn with rfl | rfl; exact hxo.2.1; exact hxo.2.2
        have HXR := Lib.hid hxr
        have hnx := HSU.out k x hx
        rw [← HS.out] at hnx
        obtain ⟨T2, hT2⟩ : ∃ T2, T2 = by_ (spaced ([x.id, x.kind].map Lib.itoa)) := ⟨_, rfl⟩
        have hT2s : T2.size ≤ 44 := by rw [hT2, by_size]; exact hsx
        rw [← hT2] at hnx
        have HT2 := Lib.hid hT2
        have HNX := Lib.hid hnx
        have HX1 := Lib.hid hx1
        have hlt' : (k : Int) < (list.length : Int) := by omega
        have hX : (textOf x.name).size ≤ 4194306 := by omega
        clear hcs hx hxo hxr hsx hT2 hnx hx1 hxt
        have k1 : ¬ (9223372036854775807 < S.size + 1) := by omega
        have k2 : ¬ (9223372036854775807 < S.size + 1 + (textOf x.name).size) := by omega
        have k3 : ¬ (9223372036854775807 < S.size + 1 + (textOf x.name).size + T2.size) := by omega
        go_upto_region 10 with (fail)
        go_region_held3 (fun W => W.cell? ⟨w.heap.size, 9, none⟩ = some (.slice (some ad) list.length d) ∧ W.cell? (ad.add (k * 3)) = some (.string x.name) ∧ W.cell? ⟨(ad.add (k * 3)).block, (ad.add (k * 3)).off + 1, none⟩ = some (.int .i64 x.id) ∧ W.cell? ⟨(ad.add (k * 3)).block, (ad.add (k * 3)).off + 2, none⟩ = some (.int .i64 x.kind)) (first | exact ⟨x9, c1, c2, c3⟩ | assumption | (have hs := ‹_ ∧ _ ∧ _ ∧ _›; first | exact ⟨cell_on (below_alloc (Below.refl _ _) _) hs.1, cell_on (below_alloc (Below.refl _ _) _) hs.2.1, cell_on (below_alloc (Below.refl _ _) _) hs.2.2.1, cell_on (below_alloc (Below.refl _ _) _) hs.2.2.2⟩ | exact ⟨cell_on hd14 hs.1, cell_on hd14 hs.2.1, cell_on hd14 hs.2.2.1, cell_on hd14 hs.2.2.2⟩ | exact ⟨cell_on hd11 hs.1, cell_on hd11 hs.2.1, cell_on hd11 hs.2.2.1, cell_on hd11 hs.2.2.2⟩)) (first | (go_at_call 14; refine (text8 x.name _ HX1.out).mono ?_; rintro e w14 ⟨rfl, hd14⟩) | (go_at_call 11; refine (nums_later (B := B) [x.id, x.kind] w14 _ #[.int .i64 x.id, .int .i64 x.kind] 3 2 2 rfl rfl (Below.refl _ _) (HT.out.on_up HB.out (below_then (below_drew HBW.out) (by simpa using HBW.out.size) hd14)) (Nat.le_trans HB.out (below_then (below_drew HBW.out) (by simpa using HBW.out.size) hd14).size) (by simp) HXR.out).mono ?_; rw [← HT2.out]; rintro e w11 ⟨rfl, hd11⟩) | (go_at_call 11; refine (nums_later (B := B) [x.id, x.kind] wr.drew w14 #[.int .i64 x.id, .int .i64 x.kind] 3 2 2 rfl rfl hd14 (HT.out.on_up HB.out (below_drew HBW.out)) (Nat.le_trans HB.out (below_drew HBW.out).size) (by simp) HXR.out).mono ?_; rw [← HT2.out]; rintro e w11 ⟨rfl, hd11⟩) | (go_at_call 11; refine (nums_later (B := B) [x.id, x.kind] wr.drew _ #[.int .i64 x.id, .int .i64 x.kind] 3 2 2 rfl rfl (Below.refl _ _) (HT.out.on_up HB.out (below_drew HBW.out)) (Nat.le_trans HB.out (below_drew HBW.out).size) (by simp) HXR.out).mono ?_; rw [← HT2.out]; rintro e w11 ⟨rfl, hd11⟩))
        all_goals
          go_wp2
          go_roundw
          case rel =>
            have hch : Below wr.heap.size wr w11 := by first | exact chainA hd14 hd11 | exact chainB hd14 hd11
            exact ⟨k + 1, _, hlt, by go_num, rfl, HNX.out, cell_on hch x9, below_then HBW.out HBW.out.size hch⟩
          case measure => simp [intOf]; omega
      · obtain rfl : k = list.length := by omega
        have hd : decide (list.length < list.length) = false := by simp
        go_wp2
        go_ret
        exact ⟨congrArg (fun t => Ending.returned (.string t)) (HS.out.trans (congrArg by_ HAL.out)), HBW.out⟩
  | false =>
    have hA := below_alloc (Below.refl w.heap.size w) (.cells #[.int .i64 call, .int .i64 op, .int .i64 status, .int .i64 handle, .int .i64 aid, .int .i64 akind, .int .i64 asize, .int .i64 achange, .slice A data.length c, .slice L list.length d, .bool false] 30)
    have hA2 := below_alloc hA (.cells #[.int .i64 aid, .int .i64 akind, .int .i64 asize, .int .i64 achange] 27)
    have hblk := Go.heap_alloc_new w (.cells #[.int .i64 call, .int .i64 op, .int .i64 status, .int .i64 handle, .int .i64 aid, .int .i64 akind, .int .i64 asize, .int .i64 achange, .slice A data.length c, .slice L list.length d, .bool false] 30)
    obtain ⟨y0, y1, y2, y3, y4, y5, y6, y7, y8, y9, y10⟩ := cells11 hblk
    clear y4 y5 y6 y7 hblk hA
    have hn2 : (w.alloc (.cells #[.int .i64 call, .int .i64 op, .int .i64 status, .int .i64 handle, .int .i64 aid, .int .i64 akind, .int .i64 asize, .int .i64 achange, .slice A data.length c, .slice L list.length d, .bool false] 30)).heap.size = w.heap.size + 1 := alloc_size _ _
    have z0 : ((w.alloc (.cells #[.int .i64 call, .int .i64 op, .int .i64 status, .int .i64 handle, .int .i64 aid, .int .i64 akind, .int .i64 asize, .int .i64 achange, .slice A data.length c, .slice L list.length d, .bool false] 30)).alloc (.cells #[.int .i64 aid, .int .i64 akind, .int .i64 asize, .int .i64 achange] 27)).cell? ⟨w.heap.size + 1, 0, none⟩ = some (.int .i64 aid) := hn2 ▸ cellB (Go.heap_alloc_new (w.alloc (.cells #[.int .i64 call, .int .i64 op, .int .i64 status, .int .i64 handle, .int .i64 aid, .int .i64 akind, .int .i64 asize, .int .i64 achange, .slice A data.length c, .slice L list.length d, .bool false] 30)) (.cells #[.int .i64 aid, .int .i64 akind, .int .i64 asize, .int .i64 achange] 27)) 0
    have z1 : ((w.alloc (.cells #[.int .i64 call, .int .i64 op, .int .i64 status, .int .i64 handle, .int .i64 aid, .int .i64 akind, .int .i64 asize, .int .i64 achange, .slice A data.length c, .slice L list.length d, .bool false] 30)).alloc (.cells #[.int .i64 aid, .int .i64 akind, .int .i64 asize, .int .i64 achange] 27)).cell? ⟨w.heap.size + 1, 1, none⟩ = some (.int .i64 akind) := hn2 ▸ cellB (Go.heap_alloc_new (w.alloc (.cells #[.int .i64 call, .int .i64 op, .int .i64 status, .int .i64 handle, .int .i64 aid, .int .i64 akind, .int .i64 asize, .int .i64 achange, .slice A data.length c, .slice L list.length d, .bool false] 30)) (.cells #[.int .i64 aid, .int .i64 akind, .int .i64 asize, .int .i64 achange] 27)) 1
    have z2 : ((w.alloc (.cells #[.int .i64 call, .int .i64 op, .int .i64 status, .int .i64 handle, .int .i64 aid, .int .i64 akind, .int .i64 asize, .int .i64 achange, .slice A data.length c, .slice L list.length d, .bool false] 30)).alloc (.cells #[.int .i64 aid, .int .i64 akind, .int .i64 asize, .int .i64 achange] 27)).cell? ⟨w.heap.size + 1, 2, none⟩ = some (.int .i64 asize) := hn2 ▸ cellB (Go.heap_alloc_new (w.alloc (.cells #[.int .i64 call, .int .i64 op, .int .i64 status, .int .i64 handle, .int .i64 aid, .int .i64 akind, .int .i64 asize, .int .i64 achange, .slice A data.length c, .slice L list.length d, .bool false] 30)) (.cells #[.int .i64 aid, .int .i64 akind, .int .i64 asize, .int .i64 achange] 27)) 2
    have z3 : ((w.alloc (.cells #[.int .i64 call, .int .i64 op, .int .i64 status, .int .i64 handle, .int .i64 aid, .int .i64 akind, .int .i64 asize, .int .i64 achange, .slice A data.length c, .slice L list.length d, .bool false] 30)).alloc (.cells #[.int .i64 aid, .int .i64 akind, .int .i64 asize, .int .i64 achange] 27)).cell? ⟨w.heap.size + 1, 3, none⟩ = some (.int .i64 achange) := hn2 ▸ cellB (Go.heap_alloc_new (w.alloc (.cells #[.int .i64 call, .int .i64 op, .int .i64 status, .int .i64 handle, .int .i64 aid, .int .i64 akind, .int .i64 asize, .int .i64 achange, .slice A data.length c, .slice L list.length d, .bool false] 30)) (.cells #[.int .i64 aid, .int .i64 akind, .int .i64 asize, .int .i64 achange] 27)) 3
    go_enter Tryd.func13, Tryd.ntmps13
    go_upto_region 5 with (fail)
    clear y10 hn2
    replace y0 : ((w.alloc (.cells #[.int .i64 call, .int .i64 op, .int .i64 status, .int .i64 handle, .int .i64 aid, .int .i64 akind, .int .i64 asize, .int .i64 achange, .slice A data.length c, .slice L list.length d, .bool false] 30)).alloc (.cells #[.int .i64 aid, .int .i64 akind, .int .i64 asize, .int .i64 achange] 27)).cell? ⟨w.heap.size, 0, none⟩ = some (.int .i64 call) := cell_on (below_alloc (Below.refl _ _) _) y0
    replace y1 : ((w.alloc (.cells #[.int .i64 call, .int .i64 op, .int .i64 status, .int .i64 handle, .int .i64 aid, .int .i64 akind, .int .i64 asize, .int .i64 achange, .slice A data.length c, .slice L list.length d, .bool false] 30)).alloc (.cells #[.int .i64 aid, .int .i64 akind, .int .i64 asize, .int .i64 achange] 27)).cell? ⟨w.heap.size, 1, none⟩ = some (.int .i64 op) := cell_on (below_alloc (Below.refl _ _) _) y1
    replace y2 : ((w.alloc (.cells #[.int .i64 call, .int .i64 op, .int .i64 status, .int .i64 handle, .int .i64 aid, .int .i64 akind, .int .i64 asize, .int .i64 achange, .slice A data.length c, .slice L list.length d, .bool false] 30)).alloc (.cells #[.int .i64 aid, .int .i64 akind, .int .i64 asize, .int .i64 achange] 27)).cell? ⟨w.heap.size, 2, none⟩ = some (.int .i64 status) := cell_on (below_alloc (Below.refl _ _) _) y2
    replace y3 : ((w.alloc (.cells #[.int .i64 call, .int .i64 op, .int .i64 status, .int .i64 handle, .int .i64 aid, .int .i64 akind, .int .i64 asize, .int .i64 achange, .slice A data.length c, .slice L list.length d, .bool false] 30)).alloc (.cells #[.int .i64 aid, .int .i64 akind, .int .i64 asize, .int .i64 achange] 27)).cell? ⟨w.heap.size, 3, none⟩ = some (.int .i64 handle) := cell_on (below_alloc (Below.refl _ _) _) y3
    replace y8 : ((w.alloc (.cells #[.int .i64 call, .int .i64 op, .int .i64 status, .int .i64 handle, .int .i64 aid, .int .i64 akind, .int .i64 asize, .int .i64 achange, .slice A data.length c, .slice L list.length d, .bool false] 30)).alloc (.cells #[.int .i64 aid, .int .i64 akind, .int .i64 asize, .int .i64 achange] 27)).cell? ⟨w.heap.size, 8, none⟩ = some (.slice A data.length c) := cell_on (below_alloc (Below.refl _ _) _) y8
    replace y9 : ((w.alloc (.cells #[.int .i64 call, .int .i64 op, .int .i64 status, .int .i64 handle, .int .i64 aid, .int .i64 akind, .int .i64 asize, .int .i64 achange, .slice A data.length c, .slice L list.length d, .bool false] 30)).alloc (.cells #[.int .i64 aid, .int .i64 akind, .int .i64 asize, .int .i64 achange] 27)).cell? ⟨w.heap.size, 9, none⟩ = some (.slice L list.length d) := cell_on (below_alloc (Below.refl _ _) _) y9
    have hsz : w.heap.size + 1 < ((w.alloc (.cells #[.int .i64 call, .int .i64 op, .int .i64 status, .int .i64 handle, .int .i64 aid, .int .i64 akind, .int .i64 asize, .int .i64 achange, .slice A data.length c, .slice L list.length d, .bool false] 30)).alloc (.cells #[.int .i64 aid, .int .i64 akind, .int .i64 asize, .int .i64 achange] 27)).heap.size := by simp only [alloc_size]; omega
    generalize (w.alloc (.cells #[.int .i64 call, .int .i64 op, .int .i64 status, .int .i64 handle, .int .i64 aid, .int .i64 akind, .int .i64 asize, .int .i64 achange, .slice A data.length c, .slice L list.length d, .bool false] 30)).alloc (.cells #[.int .i64 aid, .int .i64 akind, .int .i64 asize, .int .i64 achange] 27) = w2 at *
    have HA2 := Lib.hid hA2
    clear hA2
    have H11 := Lib.hid (nums_new (B := B) [call, op, status, handle, aid, akind, asize, achange, 0] w2 (#[.int .i64 call, .int .i64 op, .int .i64 status, .int .i64 handle, .int .i64 aid, .int .i64 akind, .int .i64 asize, .int .i64 achange, .int .i64 0]) 3 9 9 rfl rfl (HT.out.on_up HB.out HA2.out) (Nat.le_trans HB.out HA2.out.size) (by simp) HOK.out)
    obtain ⟨T1, hT1⟩ : ∃ T1, T1 = by_ (spaced ([call, op, status, handle, aid, akind, asize, achange, 0].map Lib.itoa)) := ⟨_, rfl⟩
    have hT1s : T1.size ≤ 22 * 9 := by rw [hT1, by_size]; exact ht9
    rw [← hT1] at H11
    have HT1 := Lib.hid hT1
    have hcv := fun (W : World) (h : Kd.C (Kd.int .u8) W A data.length data) => Kd.C_string (P := Tryd.prog) (c := c) Tryd.underlying23 Tryd.underlying5 Tryd.underlying9 h
    have hrd2 := (HR.out.on HA2.out).rd
    replace hrd2 : Kd.C (Kd.int .u8) w2 A data.length data := hrd2
    have HRD2 := Lib.hid hrd2
    clear hT1 hrd2 hcv ht9
    go_upto_region 6 with (go_at_call 11; refine H11.out.mono ?_; rintro e w3 ⟨rfl, hd3⟩)
    have HD3 := Lib.hid hd3
    have x9 := cell_on hd3 y9
    have x8 := cell_on hd3 y8
    clear hd3 y0 y1 y2 y3 y8 y9 z0 z1 z2 z3
    have hcv := Kd.C_string (P := Tryd.prog) (c := c) Tryd.underlying23 Tryd.underlying5 Tryd.underlying9 (Kd.C_below HRD2.out HD3.out)
    go_wp2_with (go_at_call 14; refine (text8 (strOfNums data) _ (by rw [strOfNums_size]; exact hdl')).mono ?_; rintro e w4 ⟨rfl, hd4⟩; have q9 := cell_on hd4 x9; have HD4 := Lib.hid hd4; clear hd4 hcv)
    have hbw4 := below_then (below_then HA2.out HA2.out.size HD3.out) (Nat.le_trans HA2.out.size HD3.out.size) HD4.out
    have HBW4 := Lib.hid hbw4
    have hsT := HT1.out ▸ H0.out
    have HST := Lib.hid hsT
    clear hsT hbw4
    go_loopw [5, 6] (fun v i wr => ∃ (k : Nat) (S : ByteArray), k ≤ list.length ∧ i = .int .i64 k ∧ v = .string S ∧ S = by_ (resTo ⟨call, op, status, handle, aid, akind, asize, achange, data, list, false⟩ k) ∧ wr.cell? ⟨w.heap.size, 9, none⟩ = some (.slice L list.length d) ∧ Below w.heap.size w wr) (fun _ i _ => list.length - (intOf i).toNat)
    case atStart => exact ⟨0, _, Nat.zero_le _, rfl, rfl, HST.out, q9, HBW4.out⟩
    case round =>
      obtain ⟨k, S, hk, rfl, rfl, hS, x9, hBw⟩ := hrel
      have HBW := Lib.hid hBw
      have hsz : S.size ≤ 140737488355328 := by rw [hS, by_size]; exact HLE.out k
      have HS := Lib.hid hS
      clear hBw hS q9
      by_cases hlt : k < list.length
      · obtain ⟨x, hx⟩ : ∃ x, list[k]? = some x := ⟨list[k], by simp [hlt]⟩
        obtain ⟨ad, rfl, hcs⟩ := (HR.out.list.on HBW.out).at_ (by show 0 < list.length; omega)
        obtain ⟨c1, c2, c3⟩ := hcs k x hx
        have hxo := HR.out.list.ok x (List.mem_of_getElem? hx)
        have hxt := textOf_le x.name
        have hx1 := hxo.1
        have hsx := spaced_le [x.id, x.kind] (by intro n hn; simp only [List.mem_cons, List.not_mem_nil, or_false] at hn; rcases hn with rfl | rfl; exact hxo.2.1; exact hxo.2.2)
        have hxr : ∀ n ∈ [x.id, x.kind], IntR n := by intro n hn; simp only [List.mem_cons, List.not_mem_nil, or_false] at hn; rcases hn with rfl | rfl; exact hxo.2.1; exact hxo.2.2
        have HXR := Lib.hid hxr
        have hnx := HSU.out k x hx
        rw [← HS.out] at hnx
        obtain ⟨T2, hT2⟩ : ∃ T2, T2 = by_ (spaced ([x.id, x.kind].map Lib.itoa)) := ⟨_, rfl⟩
        have hT2s : T2.size ≤ 44 := by rw [hT2, by_size]; exact hsx
        rw [← hT2] at hnx
        have HT2 := Lib.hid hT2
        have HNX := Lib.hid hnx
        have HX1 := Lib.hid hx1
        have hlt' : (k : Int) < (list.length : Int) := by omega
        have hX : (textOf x.name).size ≤ 4194306 := by omega
        clear hcs hx hxo hxr hsx hT2 hnx hx1 hxt
        have k1 : ¬ (9223372036854775807 < S.size + 1) := by omega
        have k2 : ¬ (9223372036854775807 < S.size + 1 + (textOf x.name).size) := by omega
        have k3 : ¬ (9223372036854775807 < S.size + 1 + (textOf x.name).size + T2.size) := by omega
        go_upto_region 10 with (fail)
        go_region_held3 (fun W => W.cell? ⟨w.heap.size, 9, none⟩ = some (.slice (some ad) list.length d) ∧ W.cell? (ad.add (k * 3)) = some (.string x.name) ∧ W.cell? ⟨(ad.add (k * 3)).block, (ad.add (k * 3)).off + 1, none⟩ = some (.int .i64 x.id) ∧ W.cell? ⟨(ad.add (k * 3)).block, (ad.add (k * 3)).off + 2, none⟩ = some (.int .i64 x.kind)) (first | exact ⟨x9, c1, c2, c3⟩ | assumption | (have hs := ‹_ ∧ _ ∧ _ ∧ _›; first | exact ⟨cell_on (below_alloc (Below.refl _ _) _) hs.1, cell_on (below_alloc (Below.refl _ _) _) hs.2.1, cell_on (below_alloc (Below.refl _ _) _) hs.2.2.1, cell_on (below_alloc (Below.refl _ _) _) hs.2.2.2⟩ | exact ⟨cell_on hd14 hs.1, cell_on hd14 hs.2.1, cell_on hd14 hs.2.2.1, cell_on hd14 hs.2.2.2⟩ | exact ⟨cell_on hd11 hs.1, cell_on hd11 hs.2.1, cell_on hd11 hs.2.2.1, cell_on hd11 hs.2.2.2⟩)) (first | (go_at_call 14; refine (text8 x.name _ HX1.out).mono ?_; rintro e w14 ⟨rfl, hd14⟩) | (go_at_call 11; refine (nums_later (B := B) [x.id, x.kind] w14 _ #[.int .i64 x.id, .int .i64 x.kind] 3 2 2 rfl rfl (Below.refl _ _) (HT.out.on_up HB.out (below_then (below_drew HBW.out) (by simpa using HBW.out.size) hd14)) (Nat.le_trans HB.out (below_then (below_drew HBW.out) (by simpa using HBW.out.size) hd14).size) (by simp) HXR.out).mono ?_; rw [← HT2.out]; rintro e w11 ⟨rfl, hd11⟩) | (go_at_call 11; refine (nums_later (B := B) [x.id, x.kind] wr.drew w14 #[.int .i64 x.id, .int .i64 x.kind] 3 2 2 rfl rfl hd14 (HT.out.on_up HB.out (below_drew HBW.out)) (Nat.le_trans HB.out (below_drew HBW.out).size) (by simp) HXR.out).mono ?_; rw [← HT2.out]; rintro e w11 ⟨rfl, hd11⟩) | (go_at_call 11; refine (nums_later (B := B) [x.id, x.kind] wr.drew _ #[.int .i64 x.id, .int .i64 x.kind] 3 2 2 rfl rfl (Below.refl _ _) (HT.out.on_up HB.out (below_drew HBW.out)) (Nat.le_trans HB.out (below_drew HBW.out).size) (by simp) HXR.out).mono ?_; rw [← HT2.out]; rintro e w11 ⟨rfl, hd11⟩))
        all_goals
          go_wp2
          go_roundw
          case rel =>
            have hch : Below wr.heap.size wr w11 := by first | exact chainA hd14 hd11 | exact chainB hd14 hd11
            exact ⟨k + 1, _, hlt, by go_num, rfl, HNX.out, cell_on hch x9, below_then HBW.out HBW.out.size hch⟩
          case measure => simp [intOf]; omega
      · obtain rfl : k = list.length := by omega
        have hd : decide (list.length < list.length) = false := by simp
        go_wp2
        go_ret
        exact ⟨congrArg (fun t => Ending.returned (.string t)) (HS.out.trans (congrArg by_ HAL.out)), HBW.out⟩
end Go.Proofs.YtekgdlpicgibhabDoor.SH
