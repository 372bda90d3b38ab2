/-
  play.PrintCall; bytes as digits (world.hexed, the reference's Hex).
-/
import Derived.Test.YtekgdlpicgibhabDoorV7
import Derived.Test.YtekgdlpicgibhabDoorP3
import Derived.OwnWalk
namespace Go.Proofs.YtekgdlpicgibhabDoor.SH
open Go.RowKit Go.Proofs.YtekgdlpicgibhabDoorW.PrintWords PT PWorldShows

set_option maxRecDepth 100000 in
set_option maxHeartbeats 8000000 in
theorem print7 {B : Nat} (c : Cl) (A : Option Addr) (cap : Nat) (w : World) (hT : Tabs B w) (hB : B ≤ w.heap.size) (hc : ClIn w c A cap) (hdb : bytesOf (strOfNums c.data) = c.data) :
    Calls Tryd.prog 7 #[.agg (c.cells A cap).toArray] w (PrintPost c w) := by
  have htl := textC_le hc
  obtain ⟨T, hT1⟩ : ∃ T, T = by_ (textC c) := ⟨_, rfl⟩
  have hTs : T.size = (textC c).length := by rw [hT1, by_size]
  have HX := Lib.hid hT1
  clear hT1
  have H18 := Lib.hid (written18 (B := B) c A cap (w.alloc (.cells (c.cells A cap).toArray 25)) (hT.on_up hB (below_alloc (Below.refl w.heap.size w) _)) (Nat.le_trans hB (by rw [alloc_size]; omega)) (hc.on (below_alloc (Below.refl w.heap.size w) _)) hdb)
  clear hT hB hc hdb
  have hcc : c.cells A cap = [.int .i64 c.op, .int .i64 c.h, .int .i64 c.h2, .int .i64 c.off, .int .i64 c.len, .string c.path, .string c.name, .string c.name2, .slice A c.data.length cap] := rfl
  rw [hcc] at H18 ⊢
  have hblk := Go.heap_alloc_new w (.cells (c.cells A cap).toArray 25)
  rw [hcc] at hblk
  clear hcc
  have HBK := Lib.hid hblk
  clear hblk
  by_cases hok : okC c
  · by_cases hl : (textC c).length ≤ 1048576
    · have hd : decide (1048576 < (T.size : Int)) = false := decide_eq_false (by omega)
      have hTb : T.size ≤ 9223372036854775807 := by omega
      have HL := Lib.hid hl
      have HK := Lib.hid hok
      clear hTs hl hok htl
      go_enter Tryd.func7, Tryd.ntmps7
      go_wp2_with (first | (refine wpList_load_row rfl 25 _ rfl w.heap.size rfl 25 _ _ _ HBK.out Tryd.underlying25 rfl (by kernel_rfl) ?_; go_simp) | (go_at_call 18; refine H18.out.mono ?_; rintro e w1 ⟨s, n, rfl, hn, hb⟩; obtain ⟨_, rfl, hs⟩ := hn.resolve_right (fun h => h.1 HK.out); obtain rfl := hs.trans HX.out.symm; clear hn hs))
      go_ret2
      exact ⟨_, 0, rfl, .inl ⟨⟨HK.out, HL.out⟩, rfl, HX.out⟩, below_then (below_alloc (Below.refl w.heap.size w) _) (by rw [alloc_size]; omega) hb⟩
    · have hd : decide (1048576 < (T.size : Int)) = true := decide_eq_true (by omega)
      have hTb : T.size ≤ 9223372036854775807 := by omega
      have HL := Lib.hid hl
      have HK := Lib.hid hok
      clear hTs hl hok htl
      go_enter Tryd.func7, Tryd.ntmps7
      go_wp2_with (first | (refine wpList_load_row rfl 25 _ rfl w.heap.size rfl 25 _ _ _ HBK.out Tryd.underlying25 rfl (by kernel_rfl) ?_; go_simp) | (go_at_call 18; refine H18.out.mono ?_; rintro e w1 ⟨s, n, rfl, hn, hb⟩; obtain ⟨_, rfl, hs⟩ := hn.resolve_right (fun h => h.1 HK.out); obtain rfl := hs.trans HX.out.symm; clear hn hs))
      go_ret2
      exact ⟨_, 216, rfl, .inr ⟨fun h => HL.out h.2, by decide⟩, below_then (below_alloc (Below.refl w.heap.size w) _) (by rw [alloc_size]; omega) hb⟩
  · have HK := Lib.hid hok
    clear hTs hok htl
    go_enter Tryd.func7, Tryd.ntmps7
    go_wp2_with (first | (refine wpList_load_row rfl 25 _ rfl w.heap.size rfl 25 _ _ _ HBK.out Tryd.underlying25 rfl (by kernel_rfl) ?_; go_simp) | (go_at_call 18; refine H18.out.mono ?_; rintro e w1 ⟨s, n, rfl, hn, hb⟩; obtain ⟨_, hn0⟩ := hn.resolve_left (fun h => HK.out h.1); have hne : (n == 0) = false := beq_eq_false_iff_ne.2 hn0; have Hn0 := Lib.hid hn0; clear hn hn0))
    go_ret2
    exact ⟨s, n, rfl, .inr ⟨fun h => HK.out h.1, Hn0.out⟩, below_then (below_alloc (Below.refl w.heap.size w) _) (by rw [alloc_size]; omega) hb⟩

/-- The digits of the first k bytes. -/
def hexTo (l : List Int) : Nat → List Int
  | 0 => []
  | k + 1 => hexTo l k ++ [hexd (rd l (k : Int) / 16), hexd (rd l (k : Int) % 16)]
theorem hexTo_le (l : List Int) (k : Nat) : (hexTo l k).length = 2 * k := by
  induction k with
  | zero => rfl
  | succ k ih => simp only [hexTo, List.length_append, ih]; simp; omega
def hexW (l : List Int) : ByteArray := if l.length = 0 then ⟨#[34, 34]⟩ else strOfNums (hexTo l l.length)
theorem hexW_le (l : List Int) : (hexW l).size ≤ 2 * l.length + 2 := by
  unfold hexW
  split
  · show (2 : Nat) ≤ _; omega
  · rw [strOfNums_size, hexTo_le]; omega
def Bytes (l : List Int) : Prop := ∀ i : Nat, i < l.length → 0 ≤ rd l (i : Int) ∧ rd l (i : Int) ≤ 255
theorem bytes_of {l : List Int} (h : bytesOf (strOfNums l) = l) : Bytes l := fun i _ => by
  rw [← h, rd_bytesOf]
  exact bt_range _ _
theorem Hex_l0 (l : List Int) (hl : Bytes l) (hm : l.length ≤ 1048576) : ∀ (k i : Nat), i ≤ l.length → l.length - i < k → annexref21_Hex.l0 k l (hexTo l i) (i : Int) = some (strOfNums (hexTo l l.length)) := by
  intro k
  induction k with
  | zero => intro i _ h; omega
  | succ k ih =>
    intro i hi hk
    unfold annexref21_Hex.l0
    by_cases hlt : i < l.length
    · obtain ⟨b0, b1⟩ := hl i hlt
      have t1 : Int.tdiv (rd l (i : Int)) 16 % 256 = rd l (i : Int) / 16 := by rw [Int.tdiv_eq_ediv_of_nonneg b0]; omega
      have t2 : Int.tmod (rd l (i : Int)) 16 = rd l (i : Int) % 16 := Int.tmod_eq_emod_of_nonneg b0
      have hw : wrap64 ((i : Int) + 1) = ((i + 1 : Nat) : Int) := by unfold wrap64; omega
      have h2 := hexTo_le l i
      rw [if_pos (by omega), if_pos (by omega), t1, t2, if_pos (by omega), if_pos (by omega), if_pos (by omega), Option.bind_some, if_pos (by omega), if_pos (by omega), if_pos (by simp; omega), hw]
      have e : hexTo l i ++ [bt (⟨#[48, 49, 50, 51, 52, 53, 54, 55, 56, 57, 97, 98, 99, 100, 101, 102]⟩ : ByteArray) (rd l (i : Int) / 16)] ++ [bt (⟨#[48, 49, 50, 51, 52, 53, 54, 55, 56, 57, 97, 98, 99, 100, 101, 102]⟩ : ByteArray) (rd l (i : Int) % 16)] = hexTo l (i + 1) := by
        rw [List.append_assoc]; rfl
      rw [e]
      exact ih (i + 1) hlt (by omega)
    · rw [if_neg (by omega)]
      have : i = l.length := by omega
      rw [this]
theorem Hex15 (l : List Int) (A : Option Addr) (c : Nat) (w : World) (hl : Bytes l) (hm : l.length ≤ 1048576) (hr : Kd.C (Kd.int .u8) w A l.length l) (hc : l.length ≤ c) :
    Calls Tryd.prog 15 #[.slice A l.length c] w fun e w' => e = .returned (.string (hexW l)) ∧ Below w.heap.size w w' :=
  annexref21_Hex.calls (l.length + 1) A c l _ w hr hc (by
    unfold annexref21_Hex.f hexW
    by_cases h0 : l.length = 0
    · rw [if_pos (by omega), if_pos h0]
    · rw [if_neg (by omega), if_neg h0]
      exact Hex_l0 l hl hm (l.length + 1) 0 (Nat.zero_le _) (by omega))
/-- What a round of hexed carries. -/
structure RowH (l : List Int) (w wr : World) (k : Nat) (v : Value) : Prop where
  own : wr.ownsRow w.heap.size 5 1 v (hexTo l k).length (nums .u8 (hexTo l k))
  bel : Below w.heap.size w wr
theorem RowH.drew {l : List Int} {w wr : World} {k : Nat} {v : Value} (h : RowH l w wr k v) : RowH l w wr.drew k v := ⟨h.own, below_drew h.bel⟩
set_option maxRecDepth 100000 in
set_option maxHeartbeats 1000000 in
theorem hexed10 (l : List Int) (A : Option Addr) (c : Nat) (w : World) (hl : Bytes l) (hm : l.length ≤ 1048576) (hr : Kd.C (Kd.int .u8) w A l.length l) (_hc : l.length ≤ c) :
    Calls Tryd.prog 10 #[.slice A l.length c] w fun e w' => e = .returned (.string (hexW l)) ∧ Below w.heap.size w w' := by
  have HL := Lib.hid hl
  have HR := Lib.hid hr
  clear hl hr
  by_cases h0 : l.length = 0
  · have hd : ((l.length : Int) == 0) = true := beq_iff_eq.2 (by omega)
    have HW : Hid (hexW l = ⟨#[34, 34]⟩) := Lib.hid (if_pos h0)
    clear h0
    go_enter Tryd.func10, Tryd.ntmps10
    go_wp2
    go_ret
    exact ⟨by rw [HW.out] <;> rfl, Below.refl _ _⟩
  · have hd : ((l.length : Int) == 0) = false := beq_eq_false_iff_ne.2 (by omega)
    have HW : Hid (hexW l = strOfNums (hexTo l l.length)) := Lib.hid (if_neg h0)
    have hpos : 0 < l.length := by omega
    clear h0
    obtain ⟨i0, hi, hz0, hz1, hz2⟩ := info_parts PT.info5
    go_enter Tryd.func10, Tryd.ntmps10
    go_wp2_with (at_make; refine wpList_make_own _ rfl _ _ 23 rfl w.heap.size 5 i0 (.int .u8 0) 1 Tryd.underlying23 hi hz0 hz1 .i64 .i64 _ (2 * l.length) rfl rfl (by first | omega | simp) (by rw [hz2]; omega) (by unfold maxLen; omega) (Nat.le_refl _) ?_; intro w0 hown0 hgrow0; have HO0 := Lib.hid hown0; have HG0 := Lib.hid hgrow0; clear hown0 hgrow0)
    clear hi hz0 hz1 hz2
    go_loopw [3, 15] (fun v i wr => ∃ k : Nat, k ≤ l.length ∧ i = .int .i64 k ∧ RowH l w wr k v) (fun _ i _ => l.length - (intOf i).toNat)
    case atStart => exact ⟨0, Nat.zero_le _, rfl, HO0.out, (Below.refl _ _).grown HG0.out (Nat.le_refl _) (fun k hk => by cases hk)⟩
    case round =>
      obtain ⟨k, hk, rfl, hR⟩ := hrel
      have HRR := Lib.hid hR
      clear hR
      have hel := hexTo_le l k
      by_cases hlt : k < l.length
      · obtain ⟨b0, b1⟩ := HL.out k hlt
        obtain ⟨ad, rfl, hcell⟩ := Kd.at_int (Kd.C_below HR.out HRR.out.bel) (k : Int) (by omega) (by omega)
        obtain ⟨x, hx⟩ : ∃ x, rd l (k : Int) = x := ⟨_, rfl⟩
        rw [hx] at b0 b1 hcell
        simp only [Int.toNat_natCast] at hcell
        have HE : Hid (hexTo l (k + 1) = hexTo l k ++ [hexd (x / 16), hexd (x % 16)]) := Lib.hid (by rw [← hx]; rfl)
        clear hx
        have i1 : 0 ≤ x / 16 := by omega
        have i2 : x / 16 < 16 := by omega
        have i3 : 0 ≤ x % 16 := by omega
        have i4 : x % 16 < 16 := by omega
        have e15 := and15 x b0 b1
        have x1 := hexd_walk (x / 16)
        have x2 := hexd_walk (x % 16)
        go_wp2
        go_region_law (refine app_step w.heap.size rfl (.tmp 19) (.tmp 26) 23 5 rfl Tryd.underlying23 PT.info5 _ (hexTo l k) [hexd (x / 16), hexd (x % 16)] 2 _ rfl rfl rfl rfl HRR.out.drew.own HRR.out.drew.bel HRR.out.drew.bel.size (by simp; omega) ?_; intro v1 w1 ho hb)
        all_goals go_wp2
        all_goals
          go_roundw
          case rel => exact ⟨k + 1, hlt, by go_num, by rw [HE.out]; exact ho, hb⟩
          case measure => simp [intOf]; omega
      · obtain rfl : k = l.length := by omega
        have hcv := own_string (P := Tryd.prog) Tryd.underlying23 Tryd.underlying5 Tryd.underlying9 HRR.out.own
        go_wp2
        go_ret
        exact ⟨by rw [HW.out] <;> rfl, HRR.out.bel⟩
end Go.Proofs.YtekgdlpicgibhabDoor.SH
