/-
  The tables as the row lists them; the law's walk.
-/
import Derived.Test.YtekgdlpicgibhabDoorV13
import Derived.Test.YtekgdlpicgibhabDoorV14
import Derived.Test.YtekgdlpicgibhabDoorV15
import Derived.Lib.LaidTab
import Derived.Stop.LaidErr
namespace Go.Proofs.YtekgdlpicgibhabDoor.SH
open Go.ChangeShapes Go.WideShapes Go.RowKit Go.Proofs.YtekgdlpicgibhabDoorW.PrintWords PT

theorem gCalls : Tryd.prog.globalNamed "annex/play.calls" = some 0 := by kernel_rfl
theorem gForms : Tryd.prog.globalNamed "annex/annexref21.callForms" = some 1 := by kernel_rfl
theorem gNames : Tryd.prog.globalNamed "annex/annexref21.callNames" = some 2 := by kernel_rfl
theorem gPow : Tryd.prog.globalNamed "internal/strconv.uint64pow10" = some 3 := by kernel_rfl
theorem gtCalls : (Tryd.prog.globals[0]?).map (·.type) = some 73 := by kernel_rfl
theorem gtForms : (Tryd.prog.globals[1]?).map (·.type) = some 86 := by kernel_rfl
theorem gtNames : (Tryd.prog.globals[2]?).map (·.type) = some 86 := by kernel_rfl
theorem gtPow : (Tryd.prog.globals[3]?).map (·.type) = some 100 := by kernel_rfl
theorem cells9_ : Tryd.prog.cellsOf 9 = 1 := by kernel_rfl
theorem cells72 : Tryd.prog.cellsOf 72 = 2 := by kernel_rfl
theorem str_of {s : ByteArray} {b : List UInt8} (h : s.data.toList = b) : s = by_ b := by subst h; exact (by_toList s).symm
section
variable {H : Type} {enc : TypeId × Value → H} {w : World} {base : Nat} {spare : Nat → Bool} {held : Bool} {fuel : Nat}
/-- An array of strings that reads as listed. -/
theorem str_cells {cs : List Value} {T n : Nat} {bs : List (List UInt8)} {p : List MemPlace} (hT : Tryd.prog.underlying T = some (.array n 9)) (h : DataW.trod enc Tryd.prog w base spare held fuel T cs = some (.agg (bs.map fun b => .lit (.string b)), p)) (i : Nat) (b : List UInt8) (hi : bs[i]? = some b) :
    cs[i]? = some (.string (by_ b)) := by
  obtain ⟨xs, m, _, e, hl, hlen, hf⟩ := DataW.trod_array hT h
  have e1 : xs.map (·.1) = bs.map fun b => (DataW.lit (.string b) : DataW H) := (DataW.agg.inj (congrArg Prod.fst e)).symm
  have h1 : (xs.map (·.1))[i]? = some (DataW.lit (.string b)) := by rw [e1, List.getElem?_map, hi]; rfl
  rw [List.getElem?_map, Option.map_eq_some_iff] at h1
  obtain ⟨x, hx, hx1⟩ := h1
  have hin : i < n := by rw [← hlen]; exact (List.getElem?_eq_some_iff.1 hx).1
  have h2 := hf i hin
  rw [hx, cells9_, Nat.mul_one] at h2
  obtain ⟨s, hs, rfl, _⟩ := DataW.trod_string Tryd.underlying9 h2
  injection hx1 with hx1
  injection hx1 with hx1
  have h3 := congrArg (·[0]?) hs
  rw [← str_of hx1]
  simpa [List.getElem?_take, List.getElem?_drop] using h3
/-- An array of pairs of strings that reads as listed. -/
theorem pair_cells {cs : List Value} {T n : Nat} {bs : List (List UInt8 × List UInt8)} {p : List MemPlace} (hT : Tryd.prog.underlying T = some (.array n 72)) (h : DataW.trod enc Tryd.prog w base spare held fuel T cs = some (.agg (bs.map fun b => .agg [.lit (.string b.1), .lit (.string b.2)]), p)) (i : Nat) (b : List UInt8 × List UInt8) (hi : bs[i]? = some b) :
    cs[2 * i]? = some (.string (by_ b.1)) ∧ cs[2 * i + 1]? = some (.string (by_ b.2)) := by
  obtain ⟨xs, m, _, e, hl, hlen, hf⟩ := DataW.trod_array hT h
  have e1 : xs.map (·.1) = bs.map fun b => (DataW.agg [.lit (.string b.1), .lit (.string b.2)] : DataW H) := (DataW.agg.inj (congrArg Prod.fst e)).symm
  have h1 : (xs.map (·.1))[i]? = some (DataW.agg [.lit (.string b.1), .lit (.string b.2)]) := by rw [e1, List.getElem?_map, hi]; rfl
  rw [List.getElem?_map, Option.map_eq_some_iff] at h1
  obtain ⟨x, hx, hx1⟩ := h1
  have hin : i < n := by rw [← hlen]; exact (List.getElem?_eq_some_iff.1 hx).1
  have h2 := hf i hin
  rw [hx, cells72] at h2
  obtain ⟨y0, y1, n', rfl, hl2, g0, g1⟩ := trod_struct2 Tryd.underlying72 h2
  simp only [cells9_] at g0 g1
  obtain ⟨s0, hs0, rfl, _⟩ := DataW.trod_string Tryd.underlying9 g0
  obtain ⟨s1, hs1, rfl, _⟩ := DataW.trod_string Tryd.underlying9 g1
  injection hx1 with hx1
  injection hx1 with hx2 hx3
  injection hx2 with hx2
  injection hx2 with hx2
  injection hx3 with hx3 _
  injection hx3 with hx3
  injection hx3 with hx3
  have h3 := congrArg (·[0]?) hs0
  have h4 := congrArg (·[0]?) hs1
  rw [← str_of hx2, ← str_of hx3, Nat.mul_comm]
  constructor
  · simpa [List.getElem?_take, List.getElem?_drop] using h3
  · simpa [List.getElem?_take, List.getElem?_drop] using h4
end
/-- WHAT THE ROW's LIST GIVES. -/
theorem tabs {W : World} (h : laidMetH Tryd.prog Rows.worldShowsUptoRow.laid W) : Tabs W.heap.size W := by
  have h0 : laidMet Tryd.prog [("math/bits.deBruijn32tab", Rows.laid_math_bits_deBruijn32tab), ("math/bits.deBruijn64tab", Rows.laid_math_bits_deBruijn64tab), ("internal/strconv.uint64pow10", Rows.laid_internal_strconv_uint64pow10), ("annex/annexref21.callNames", Rows.laid_annex_annexref21_callNames), ("annex/annexref21.callForms", Rows.laid_annex_annexref21_callForms), ("annex/play.calls", Rows.laid_annex_play_calls)] W := h
  have hpow : Lib.TabIs Tryd.prog W "internal/strconv.uint64pow10" .u64 Lib.pow10Tab := Lib.tabIs_of_head gPow gtPow Tryd.underlying100 Tryd.underlying90 (by kernel_rfl) (by kernel_rfl) h0.tail.tail
  have hn := h0.tail.tail.tail
  have hf := hn.tail
  have hc := hf.tail
  obtain ⟨_, ⟨g1, t1, cs1, fu1, p1, q1, hg1, ht1, hv1, hd1, _, _⟩, _⟩ := hn
  obtain rfl := Option.some.inj (gNames.symm.trans hg1)
  obtain rfl := Option.some.inj (gtNames.symm.trans ht1)
  obtain ⟨_, ⟨g2, t2, cs2, fu2, p2, q2, hg2, ht2, hv2, hd2, _, _⟩, _⟩ := hf
  obtain rfl := Option.some.inj (gForms.symm.trans hg2)
  obtain rfl := Option.some.inj (gtForms.symm.trans ht2)
  obtain ⟨_, ⟨g3, t3, cs3, fu3, p3, q3, hg3, ht3, hv3, hd3, _, _⟩, _⟩ := hc
  obtain rfl := Option.some.inj (gCalls.symm.trans hg3)
  obtain rfl := Option.some.inj (gtCalls.symm.trans ht3)
  have c1 := fun i => (World.var?_cell gNames hv1 i).trans (Array.getElem?_toList (xs := cs1)).symm
  have c2 := fun i => (World.var?_cell gForms hv2 i).trans (Array.getElem?_toList (xs := cs2)).symm
  have c3 := fun i => (World.var?_cell gCalls hv3 i).trans (Array.getElem?_toList (xs := cs3)).symm
  have n1 := fun i b (hi : [[], [108, 111, 111, 107, 117, 112], [103, 101, 116, 97, 116, 116, 114], [114, 101, 97, 100], [119, 114, 105, 116, 101], [99, 114, 101, 97, 116, 101], [114, 101, 109, 111, 118, 101], [109, 107, 100, 105, 114], [114, 109, 100, 105, 114], [114, 101, 110, 97, 109, 101], [114, 101, 97, 100, 100, 105, 114]][i]? = some b) => str_cells Tryd.underlying86 hd1 i b hi
  have n2 := fun i b (hi : [[], [112], [104], [104, 111, 108], [104, 111, 100], [104, 110], [104, 110], [104, 110], [104, 110], [104, 110, 103, 109], [104, 110, 108]][i]? = some b) => str_cells Tryd.underlying86 hd2 i b hi
  have n3 := fun i b (hi : [([], []), ([108, 111, 111, 107, 117, 112], [112]), ([103, 101, 116, 97, 116, 116, 114], [104]), ([114, 101, 97, 100], [104, 111, 108]), ([119, 114, 105, 116, 101], [104, 111, 100]), ([99, 114, 101, 97, 116, 101], [104, 110]), ([114, 101, 109, 111, 118, 101], [104, 110]), ([109, 107, 100, 105, 114], [104, 110]), ([114, 109, 100, 105, 114], [104, 110]), ([114, 101, 110, 97, 109, 101], [104, 110, 105, 50]), ([114, 101, 97, 100, 100, 105, 114], [104, 110, 108])][i]? = some b) => pair_cells Tryd.underlying73 hd3 i b hi
  have n3a := fun (i : Nat) (a b : List UInt8) hi => (n3 i (a, b) hi).1
  have n3b := fun (i : Nat) (a b : List UInt8) hi => (n3 i (a, b) hi).2
  simp only at n3a n3b
  have ten : ∀ op : Nat, 1 ≤ op → op ≤ 10 → op = 1 ∨ op = 2 ∨ op = 3 ∨ op = 4 ∨ op = 5 ∨ op = 6 ∨ op = 7 ∨ op = 8 ∨ op = 9 ∨ op = 10 := fun op h1 h2 => by omega
  have nm : ∀ op : Nat, 1 ≤ op → op ≤ 10 → W.cell? ⟨2, op, none⟩ = some (.string (by_ (nameOf op))) := fun op h1 h2 => by
    rcases ten op h1 h2 with rfl | rfl | rfl | rfl | rfl | rfl | rfl | rfl | rfl | rfl <;> exact (c1 _).trans (n1 _ (nameOf _) rfl)
  refine ⟨Lib.tabBelow_of_tabIs hpow, World.block_lt_of_cell? W ⟨2, 1, none⟩ (nm 1 (by omega) (by omega)), nm, fun op h1 h2 => ?_, fun op h1 h2 => ?_, fun op h1 h2 => ?_⟩
  · rcases ten op h1 h2 with rfl | rfl | rfl | rfl | rfl | rfl | rfl | rfl | rfl | rfl <;> exact (c2 _).trans (n2 _ (formR _) rfl)
  · rcases ten op h1 h2 with rfl | rfl | rfl | rfl | rfl | rfl | rfl | rfl | rfl | rfl <;> exact (c3 _).trans (n3a _ (nameOf _) _ rfl)
  · rcases ten op h1 h2 with rfl | rfl | rfl | rfl | rfl | rfl | rfl | rfl | rfl | rfl <;> exact (c3 _).trans (n3b _ _ (formOf _) rfl)
theorem itoa2 : Lib.itoa 2 = [50] := by
  unfold Lib.itoa
  rw [if_neg (by omega), Lib.decDigits, dif_pos (by decide)]
  rfl
theorem up2 (e : Ev) (h : e.k = 2) : by_ (wordsT (ev8 e)) = ⟨#[117, 112, 32, 50]⟩ := by
  unfold ev8
  rw [wordsT_cons, h]
  simp [Wd.text, itoa2, spaced, by_]
/-- The empty event but for its kind and its number. -/
def upEv : Ev := ⟨8, 0, 2, 0, 0, ⟨0, 0, 0, 0, 0, ⟨#[]⟩, ⟨#[]⟩, ⟨#[]⟩, []⟩, ⟨0, 0, 0, 0, 0, 0, 0, 0, [], [], false⟩, 0, 0, 0, ⟨#[]⟩, 0, 0, 0, [], 0, 0, []⟩
def upAt : At := ⟨none, 0, none, 0, none, 0, none, 0, none, 0⟩
theorem int0 : IntR 0 := by unfold IntR; omega
theorem bs0 (w : World) : BsIn w [] none 0 := ⟨fun i h => absurd h (by simp), by simp, Kd.C_nil _ _, Nat.le_refl _⟩
theorem up_in (w : World) : EvIn w upEv upAt where
  a := int0
  k := by show IntR 2; unfold IntR; omega
  m := int0
  code := int0
  call := ⟨int0, int0, int0, int0, int0, by show (0 : Nat) ≤ _; omega, by show (0 : Nat) ≤ _; omega, by show (0 : Nat) ≤ _; omega, by show (0 : Nat) ≤ _; omega, Kd.C_nil _ _, Nat.le_refl _⟩
  cb := rfl
  res := ⟨int0, int0, int0, int0, int0, int0, int0, int0, by show (0 : Nat) ≤ _; omega, Kd.C_nil _ _, ⟨fun h => absurd h (by simp [upEv]), Nat.le_refl _, by show (0 : Nat) ≤ _; omega, fun x hx => by simp [upEv] at hx⟩⟩
  hn := int0
  hi := int0
  he := int0
  hp := by show (0 : Nat) ≤ _; omega
  kcl := int0
  kseq := int0
  kst := int0
  kdata := bs0 w
  fno := int0
  fto := int0
  fdata := bs0 w
set_option maxRecDepth 100000 in
set_option maxHeartbeats 8000000 in
theorem law3 {B : Nat} (e : Ev) (p : At) (w : World) (hT : Tabs B w) (hB : B ≤ w.heap.size) (he : EvIn w e p) :
    Calls Tryd.prog 3 #[.agg (e.cells p).toArray] w fun r w' => r = .returned (.bool true) ∧ Below w.heap.size w w' := by
  have hA := below_alloc (Below.refl w.heap.size w) (.cells (e.cells p).toArray 38)
  have hblk := Go.heap_alloc_new w (.cells (e.cells p).toArray 38)
  obtain ⟨w1, hw1⟩ : ∃ w1, w1 = w.alloc (.cells (e.cells p).toArray 38) := ⟨_, rfl⟩
  rw [← hw1] at hA hblk
  have HA := Lib.hid hA
  have H4 := Lib.hid (show4 (B := B) e p w1 (hT.on_up hB hA) (Nat.le_trans hB hA.size) (he.on hA))
  have H5 := Lib.hid (fun (w2 : World) (hb : Below w1.heap.size w1 w2) => show5 (B := B) e p w2 ((hT.on_up hB hA).on_up (Nat.le_trans hB hA.size) hb) (Nat.le_trans hB (Nat.le_trans hA.size hb.size)) ((he.on hA).on hb))
  have h8 := fun (w3 : World) (hb : Below w1.heap.size w1 w3) => show4 (B := B) upEv upAt w3 ((hT.on_up hB hA).on_up (Nat.le_trans hB hA.size) hb) (Nat.le_trans hB (Nat.le_trans hA.size hb.size)) (up_in w3)
  have h8e : evT upEv = ⟨#[117, 112, 32, 50]⟩ := by
    have h : evT upEv = by_ (wordsT (ev8 upEv)) := by unfold evT; rw [if_neg (by decide), if_neg (by decide), if_neg (by decide), if_neg (by decide), if_neg (by decide), if_neg (by decide), if_neg (by decide), if_pos (by decide)]
    rw [h]; exact up2 upEv rfl
  rw [h8e] at h8
  have h8c : (upEv.cells upAt).toArray = #[.int .i64 8, .int .i64 0, .int .i64 2, .int .i64 0, .int .i64 0, .int .i64 0, .int .i64 0, .int .i64 0, .int .i64 0, .int .i64 0, .string ⟨#[]⟩, .string ⟨#[]⟩, .string ⟨#[]⟩, .slice none 0 0, .int .i64 0, .int .i64 0, .int .i64 0, .int .i64 0, .int .i64 0, .int .i64 0, .int .i64 0, .int .i64 0, .slice none 0 0, .slice none 0 0, .bool false, .int .i64 0, .int .i64 0, .int .i64 0, .string ⟨#[]⟩, .int .i64 0, .int .i64 0, .int .i64 0, .slice none 0 0, .int .i64 0, .int .i64 0, .slice none 0 0] := by kernel_rfl
  rw [h8c] at h8
  have H8 := Lib.hid h8
  obtain ⟨T, hT⟩ : ∃ T, T = evT e := ⟨_, rfl⟩
  rw [← hT] at H4 H5
  have HBK := Lib.hid hblk
  have hlt : w.heap.size < w1.heap.size := by rw [hw1, alloc_size]; omega
  have HLT := Lib.hid hlt
  have HW := Lib.hid hw1
  obtain ⟨cs, hcs⟩ : ∃ cs, cs = (e.cells p).toArray := ⟨_, rfl⟩
  have hsz : cs.size = 36 := by rw [hcs]; rfl
  rw [← hcs] at H4 H5 HBK HW ⊢
  have HSZ := Lib.hid hsz
  clear hA hblk he hB h8 h8e h8c hT hlt hw1 hcs hsz
  have tt : (⟨#[117, 112, 32, 50]⟩ : ByteArray).toList = [117, 112, 32, 50] := by rw [ByteArray.toList_eq]
  go_enter Tryd.func3, Tryd.ntmps3
  go_upto_region 1 with (fail)
  rw [← HW.out]
  go_upto_region 2 with (first | (refine wpList_load_row rfl 38 _ rfl w.heap.size rfl 38 _ _ _ HBK.out Tryd.underlying38 rfl (by rw [HSZ.out]; kernel_rfl) ?_; go_simp) | (go_at_call 4; refine H4.out.mono ?_; rintro r4 w4 ⟨rfl, hd4⟩))
  have HBK4 := Lib.hid ((hd4.block _ HLT.out).trans HBK.out)
  go_upto_region 3 with (first | (refine wpList_load_row rfl 38 _ rfl w.heap.size rfl 38 _ _ _ HBK4.out Tryd.underlying38 rfl (by rw [HSZ.out]; kernel_rfl) ?_; go_simp) | (go_at_call 5; refine (H5.out _ hd4).mono ?_; rintro r5 w5 ⟨rfl, hd5⟩))
  go_upto_region 4 with (go_at_call 4; go_loud ((with_reducible refine (H8.out _ (below_then hd4 hd4.size hd5)).mono ?_); rintro r8 w8 ⟨rfl, hd8⟩))
  go_wp2
  go_ret
  exact ⟨rfl, below_then (below_then (below_then HA.out HA.out.size hd4) (Nat.le_trans HA.out.size hd4.size) hd5) (Nat.le_trans HA.out.size (Nat.le_trans hd4.size hd5.size)) hd8⟩
end Go.Proofs.YtekgdlpicgibhabDoor.SH
