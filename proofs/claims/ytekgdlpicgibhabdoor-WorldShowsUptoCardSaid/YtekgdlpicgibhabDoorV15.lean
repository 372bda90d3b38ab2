/-
  An event that came in, read; its bulk.
-/
import Derived.Test.YtekgdlpicgibhabDoorV12
import Derived.Test.YtekgdlpicgibhabDoorRows
import Derived.Deep.Strs
import Derived.ChangeSlices
import Derived.Deep.Slices
import Derived.OpenShut
namespace Go.Proofs.YtekgdlpicgibhabDoor.SH
open Go.ChangeShapes Go.WideShapes Go.RowKit Go.Proofs.YtekgdlpicgibhabDoorW.PrintWords PT _root_.Go.Proofs.YtekgdlpicgibhabDoor.Rows

theorem bulk_pos {H : Type} (d : DataW H) : 1 ≤ uptoBulk d := by
  cases d with
  | lit l => cases l <;> simp [uptoBulk]
  | nil => simp [uptoBulk]
  | ptr d => simp [uptoBulk]
  | slice e s => simp [uptoBulk]
  | agg p => simp [uptoBulk]
  | iface t d => simp [uptoBulk]
  | map e => simp [uptoBulk]
  | held x => simp [uptoBulk]
theorem bulk_len {H : Type} (ds : List (DataW H)) : ds.length ≤ uptoBulkAll ds := by
  induction ds with
  | nil => simp [uptoBulkAll]
  | cons d r ih =>
    have := bulk_pos d
    simp only [uptoBulkAll, List.length_cons]
    omega
theorem bulk_mem {H : Type} {ds : List (DataW H)} {d : DataW H} (h : d ∈ ds) : uptoBulk d ≤ uptoBulkAll ds := by
  induction ds with
  | nil => cases h
  | cons e r ih =>
    simp only [uptoBulkAll]
    rcases List.mem_cons.1 h with rfl | h
    · omega
    · have := ih h; omega
theorem strOf_byts {l : List Int} (h : ∀ x ∈ l, 0 ≤ x ∧ x < 256) : bytesOf (strOfNums l) = l := by
  unfold bytesOf strOfNums
  simp only [List.map_map]
  conv => rhs; rw [← List.map_id l]
  refine List.map_congr_left fun x hx => ?_
  obtain ⟨h0, h1⟩ := h x hx
  show ((UInt8.ofNat x.toNat).toNat : Int) = x
  rw [UInt8.toNat_ofNat']
  omega
section
variable {H : Type} {enc : TypeId × Value → H} {w : World} {base : Nat} {spare : Nat → Bool} {held : Bool} {fuel : Nat} {x : DataW H × List MemPlace}
theorem read_int {T : TypeId} {v : Value} (hT : Tryd.prog.underlying T = some (.int .i64)) (h : DataW.trod enc Tryd.prog w base spare held fuel T [v] = some x) : ∃ n, v = .int .i64 n ∧ IntR n := by
  obtain ⟨n, e, _, hw⟩ := DataW.trod_int hT h
  cases e
  exact ⟨n, rfl, bounds_i64 hw⟩
theorem read_str {v : Value} (h : DataW.trod enc Tryd.prog w base spare held fuel 9 [v] = some x) : ∃ s, v = .string s ∧ s.size + 1 ≤ uptoBulk x.1 := by
  obtain ⟨s, e, rfl, _⟩ := DataW.trod_string Tryd.underlying9 h
  cases e
  exact ⟨s, rfl, by simp only [uptoBulk]; rw [Array.length_toList]; exact Nat.le_refl _⟩
theorem read_bool {v : Value} (h : DataW.trod enc Tryd.prog w base spare held fuel 4 [v] = some x) : ∃ b, v = .bool b := by
  obtain ⟨b, e, _⟩ := DataW.trod_bool Tryd.underlying4 h
  cases e
  exact ⟨b, rfl⟩
theorem read_bytes {v : Value} (h : DataW.trod enc Tryd.prog w base spare held fuel 23 [v] = some x) :
    ∃ A l c, v = .slice A l.length c ∧ Kd.C (Kd.int .u8) w A l.length l ∧ bytesOf (strOfNums l) = l ∧ l.length ≤ c ∧ l.length + 1 ≤ uptoBulk x.1 := by
  rcases Deep.open_slice1 Tryd.underlying23 (by kernel_rfl) h with ⟨e, rfl⟩ | ⟨a, len, cap, m, n, V, D, Pl, e, _, hl, hm, hmm, rfl, hx⟩
  · cases e
    exact ⟨none, [], 0, rfl, Kd.C_nil _ _, strOf_byts (fun x hx => by simp at hx), Nat.le_refl _, bulk_pos _⟩
  · cases e
    have hlm : len ≤ m := by rw [hmm]; split <;> omega
    have key : ∀ i, i < len → V i = .int .u8 (intOf (V i)) ∧ 0 ≤ intOf (V i) ∧ intOf (V i) < 256 := by
      intro i hi
      obtain ⟨_, h2⟩ := hx i (by omega)
      obtain ⟨y, hy, _, hw⟩ := DataW.trod_int Tryd.underlying5 h2
      simp only [List.cons.injEq, and_true] at hy
      have := bounds_u8 hw
      rw [hy]
      exact ⟨rfl, by simp only [intOf]; omega, by simp only [intOf]; omega⟩
    have hbl : ((List.range len).map fun i => intOf (V i)).length = len := by simp
    refine ⟨some a, (List.range len).map (fun i => intOf (V i)), cap, by rw [hbl], ?_, strOf_byts (fun y hy => ?_), by rw [hbl]; exact hl, ?_⟩
    · refine Kd.C_of_reads (enc := Value.int .u8) (d := (0 : Int)) ⟨rfl, by rw [hbl]; simp [maxLen] at hm; omega, fun _ => ⟨a, rfl, fun j hj => ?_⟩⟩
      rw [hbl] at hj
      rw [(hx j (by omega)).1, (key j hj).1]
      simp [List.getD_eq_getElem?_getD, hj]
    · obtain ⟨i, hi, rfl⟩ := List.mem_map.1 hy
      exact ⟨(key i (List.mem_range.1 hi)).2.1, (key i (List.mem_range.1 hi)).2.2⟩
    · have := bulk_len ((List.range len).map D)
      simp only [List.length_map, List.length_range] at this
      simp only [uptoBulk, hbl]
      omega
theorem cells56 : Tryd.prog.cellsOf 56 = 3 := by kernel_rfl
theorem cell_plain {p : Addr} {v : Value} {j : Nat} (h : w.cell? (p.add j) = some v) : w.cell? ⟨p.block, p.off + j, none⟩ = some v := by
  have hb : (p.add j).block = p.block := by unfold Addr.add; split <;> rfl
  have ho : (p.add j).off = p.off + j := by unfold Addr.add; split <;> simp_all
  unfold World.cell? at h ⊢
  rw [hb, ho] at h
  simp only
  split at h
  · split at h
    · cases h
    · simpa using h
  · cases h
set_option maxRecDepth 100000 in
theorem read_list {v : Value} (h : DataW.trod enc Tryd.prog w base spare held fuel 28 [v] = some x) (hb : uptoBulk x.1 ≤ 1048576) : ∃ L l d, v = .slice L l.length d ∧ ListIn w L d l := by
  rcases Deep.open_slice Tryd.underlying28 h with ⟨e, rfl⟩ | ⟨a, len, cap, m, n, D, Pl, e, _, hl, hm, hmm, rfl, hx⟩
  · cases e
    exact ⟨none, [], 0, rfl, fun h => absurd h (by simp), Nat.le_refl _, by simp, fun x hx => by simp at hx⟩
  · cases e
    have hlm : len ≤ m := by rw [hmm]; split <;> omega
    have key : ∀ i, ∃ p : Ln, i < len → w.cell? (a.add (i * 3)) = some (.string p.name) ∧ w.cell? ⟨(a.add (i * 3)).block, (a.add (i * 3)).off + 1, none⟩ = some (.int .i64 p.id) ∧ w.cell? ⟨(a.add (i * 3)).block, (a.add (i * 3)).off + 2, none⟩ = some (.int .i64 p.kind) ∧
        p.name.size ≤ uptoBulk (D i) ∧ IntR p.id ∧ IntR p.kind := by
      intro i
      by_cases hi : i < len
      · obtain ⟨cs', h1, h2⟩ := hx i (by omega)
        rw [cells56] at h1
        obtain ⟨_, hlen, hc⟩ := World.cells?_some h1
        obtain ⟨y0, y1, y2, n', e, _, g0, g1, g2⟩ := Deep.trod_struct3 Tryd.underlying56 h2
        match cs', hlen with
        | [v0, v1, v2], _ =>
          have e0 := hc 0 (by omega)
          have e1 := hc 1 (by omega)
          have e2 := hc 2 (by omega)
          have g0' : DataW.trod enc Tryd.prog w base spare held n' 9 [v0] = some y0 := g0
          have g1' : DataW.trod enc Tryd.prog w base spare held n' 3 [v1] = some y1 := g1
          have g2' : DataW.trod enc Tryd.prog w base spare held n' 3 [v2] = some y2 := g2
          obtain ⟨s, rfl, hs⟩ := read_str g0'
          obtain ⟨i1, rfl, hi1⟩ := read_int Tryd.underlying3 g1'
          obtain ⟨i2, rfl, hi2⟩ := read_int Tryd.underlying3 g2'
          have e0' : w.cell? (a.add (i * 3)) = some (.string s) := by
            have e4 : (a.add (i * 3)).add 0 = a.add (i * 3) := by simp [Addr.add]
            rw [e4] at e0
            simpa using e0
          refine ⟨⟨s, i1, i2⟩, fun _ => ⟨e0', cell_plain (by simpa using e1), cell_plain (by simpa using e2), ?_, hi1, hi2⟩⟩
          have e5 : D i = .agg [y0.1, y1.1, y2.1] := by injection e
          rw [e5]
          simp only [uptoBulk, uptoBulkAll]
          omega
      · exact ⟨⟨⟨#[]⟩, 0, 0⟩, fun h => absurd h hi⟩
    obtain ⟨f, hf⟩ : ∃ f : Nat → Ln, ∀ i, i < len → w.cell? (a.add (i * 3)) = some (.string (f i).name) ∧ w.cell? ⟨(a.add (i * 3)).block, (a.add (i * 3)).off + 1, none⟩ = some (.int .i64 (f i).id) ∧ w.cell? ⟨(a.add (i * 3)).block, (a.add (i * 3)).off + 2, none⟩ = some (.int .i64 (f i).kind) ∧
        (f i).name.size ≤ uptoBulk (D i) ∧ IntR (f i).id ∧ IntR (f i).kind := ⟨fun i => Classical.choose (key i), fun i hi => Classical.choose_spec (key i) hi⟩
    have hbl : ((List.range len).map f).length = len := by simp
    have hbk := bulk_len ((List.range len).map D)
    simp only [List.length_map, List.length_range] at hbk
    simp only [uptoBulk] at hb
    refine ⟨some a, (List.range len).map f, cap, by rw [hbl], ⟨fun _ => ⟨a, rfl, fun k p hp => ?_⟩, by rw [hbl]; exact hl, by rw [hbl]; omega, fun p hp => ?_⟩⟩
    · have hk : k < len := by have := (List.getElem?_eq_some_iff.1 hp).1; rw [hbl] at this; exact this
      have e : p = f k := by simp [hk] at hp; exact hp.symm
      subst e
      obtain ⟨h1, h2, h3, _⟩ := hf k hk
      exact ⟨h1, h2, h3⟩
    · obtain ⟨i, hi, rfl⟩ := List.mem_map.1 hp
      have hi' := List.mem_range.1 hi
      obtain ⟨_, _, _, h4, h5, h6⟩ := hf i hi'
      have := bulk_mem (List.mem_map.2 ⟨i, hi, rfl⟩ : D i ∈ (List.range len).map D)
      exact ⟨by omega, h5, h6⟩
set_option maxRecDepth 100000 in
theorem read_call {cs : List Value} (h : DataW.trod enc Tryd.prog w base spare held fuel 25 cs = some x) (hb : uptoBulk x.1 ≤ 1048576) : ∃ c A cap, cs = Cl.cells c A cap ∧ ClIn w c A cap ∧ bytesOf (strOfNums c.data) = c.data := by
  obtain ⟨xs, n, _, rfl, hl, hlen, hf⟩ := DataW.trod_struct Tryd.underlying25 h
  rw [show Tryd.prog.cellsOf 25 = 9 by kernel_rfl] at hl
  match cs, hl, xs, hlen with
  | v0 :: v1 :: v2 :: v3 :: v4 :: v5 :: v6 :: v7 :: v8 :: [], _, [x0, x1, x2, x3, x4, x5, x6, x7, x8], _ =>
  have hbm : ∀ d ∈ [x0.1, x1.1, x2.1, x3.1, x4.1, x5.1, x6.1, x7.1, x8.1], uptoBulk d ≤ 1048575 := fun d hd => by
    have h1 := bulk_mem hd
    simp only [List.map_cons, List.map_nil, uptoBulk] at hb
    omega
  have g0 : DataW.trod enc Tryd.prog w base spare held n 3 [v0] = some x0 := (hf 0 _ rfl)
  have b0 := hbm x0.1 (by simp)
  have g1 : DataW.trod enc Tryd.prog w base spare held n 3 [v1] = some x1 := (hf 1 _ rfl)
  have b1 := hbm x1.1 (by simp)
  have g2 : DataW.trod enc Tryd.prog w base spare held n 3 [v2] = some x2 := (hf 2 _ rfl)
  have b2 := hbm x2.1 (by simp)
  have g3 : DataW.trod enc Tryd.prog w base spare held n 3 [v3] = some x3 := (hf 3 _ rfl)
  have b3 := hbm x3.1 (by simp)
  have g4 : DataW.trod enc Tryd.prog w base spare held n 3 [v4] = some x4 := (hf 4 _ rfl)
  have b4 := hbm x4.1 (by simp)
  have g5 : DataW.trod enc Tryd.prog w base spare held n 9 [v5] = some x5 := (hf 5 _ rfl)
  have b5 := hbm x5.1 (by simp)
  have g6 : DataW.trod enc Tryd.prog w base spare held n 9 [v6] = some x6 := (hf 6 _ rfl)
  have b6 := hbm x6.1 (by simp)
  have g7 : DataW.trod enc Tryd.prog w base spare held n 9 [v7] = some x7 := (hf 7 _ rfl)
  have b7 := hbm x7.1 (by simp)
  have g8 : DataW.trod enc Tryd.prog w base spare held n 23 [v8] = some x8 := (hf 8 _ rfl)
  have b8 := hbm x8.1 (by simp)
  obtain ⟨n0, rfl, r0⟩ := read_int Tryd.underlying3 g0
  obtain ⟨n1, rfl, r1⟩ := read_int Tryd.underlying3 g1
  obtain ⟨n2, rfl, r2⟩ := read_int Tryd.underlying3 g2
  obtain ⟨n3, rfl, r3⟩ := read_int Tryd.underlying3 g3
  obtain ⟨n4, rfl, r4⟩ := read_int Tryd.underlying3 g4
  obtain ⟨s5, rfl, r5⟩ := read_str g5
  obtain ⟨s6, rfl, r6⟩ := read_str g6
  obtain ⟨s7, rfl, r7⟩ := read_str g7
  obtain ⟨A, l, c, rfl, hC, hB, hc, hl8⟩ := read_bytes g8
  exact ⟨⟨n0, n1, n2, n3, n4, s5, s6, s7, l⟩, A, c, rfl, ⟨r0, r1, r2, r3, r4, by show s5.size ≤ _; omega, by show s6.size ≤ _; omega, by show s7.size ≤ _; omega, by show l.length ≤ _; omega, hC, hc⟩, hB⟩
set_option maxRecDepth 100000 in
theorem read_four {cs : List Value} (h : DataW.trod enc Tryd.prog w base spare held fuel 27 cs = some x) : ∃ a b c d, cs = [.int .i64 a, .int .i64 b, .int .i64 c, .int .i64 d] ∧ IntR a ∧ IntR b ∧ IntR c ∧ IntR d := by
  obtain ⟨xs, n, _, rfl, hl, hlen, hf⟩ := DataW.trod_struct Tryd.underlying27 h
  rw [show Tryd.prog.cellsOf 27 = 4 by kernel_rfl] at hl
  match cs, hl, xs, hlen with
  | v0 :: v1 :: v2 :: v3 :: [], _, [x0, x1, x2, x3], _ =>
  have g0 : DataW.trod enc Tryd.prog w base spare held n 3 [v0] = some x0 := (hf 0 _ rfl)
  have g1 : DataW.trod enc Tryd.prog w base spare held n 3 [v1] = some x1 := (hf 1 _ rfl)
  have g2 : DataW.trod enc Tryd.prog w base spare held n 3 [v2] = some x2 := (hf 2 _ rfl)
  have g3 : DataW.trod enc Tryd.prog w base spare held n 3 [v3] = some x3 := (hf 3 _ rfl)
  obtain ⟨n0, rfl, r0⟩ := read_int Tryd.underlying3 g0
  obtain ⟨n1, rfl, r1⟩ := read_int Tryd.underlying3 g1
  obtain ⟨n2, rfl, r2⟩ := read_int Tryd.underlying3 g2
  obtain ⟨n3, rfl, r3⟩ := read_int Tryd.underlying3 g3
  exact ⟨n0, n1, n2, n3, rfl, r0, r1, r2, r3⟩
set_option maxRecDepth 100000 in
theorem read_res {cs : List Value} (h : DataW.trod enc Tryd.prog w base spare held fuel 30 cs = some x) (hb : uptoBulk x.1 ≤ 1048576) : ∃ r A c L d, cs = Rs.cells r A c L d ∧ RsIn w r A c L d := by
  obtain ⟨xs, n, _, rfl, hl, hlen, hf⟩ := DataW.trod_struct Tryd.underlying30 h
  rw [show Tryd.prog.cellsOf 30 = 11 by kernel_rfl] at hl
  match cs, hl, xs, hlen with
  | v0 :: v1 :: v2 :: v3 :: v4 :: v5 :: v6 :: v7 :: v8 :: v9 :: v10 :: [], _, [x0, x1, x2, x3, x4, x5, x6, x7], _ =>
  have hbm : ∀ d ∈ [x0.1, x1.1, x2.1, x3.1, x4.1, x5.1, x6.1, x7.1], uptoBulk d ≤ 1048575 := fun d hd => by
    have h1 := bulk_mem hd
    simp only [List.map_cons, List.map_nil, uptoBulk] at hb
    omega
  have g0 : DataW.trod enc Tryd.prog w base spare held n 3 [v0] = some x0 := (hf 0 _ rfl)
  have b0 := hbm x0.1 (by simp)
  have g1 : DataW.trod enc Tryd.prog w base spare held n 3 [v1] = some x1 := (hf 1 _ rfl)
  have b1 := hbm x1.1 (by simp)
  have g2 : DataW.trod enc Tryd.prog w base spare held n 22 [v2] = some x2 := (hf 2 _ rfl)
  have b2 := hbm x2.1 (by simp)
  have g3 : DataW.trod enc Tryd.prog w base spare held n 3 [v3] = some x3 := (hf 3 _ rfl)
  have b3 := hbm x3.1 (by simp)
  have g4 : DataW.trod enc Tryd.prog w base spare held n 27 [v4, v5, v6, v7] = some x4 := (hf 4 _ rfl)
  have b4 := hbm x4.1 (by simp)
  have g5 : DataW.trod enc Tryd.prog w base spare held n 23 [v8] = some x5 := (hf 5 _ rfl)
  have b5 := hbm x5.1 (by simp)
  have g6 : DataW.trod enc Tryd.prog w base spare held n 28 [v9] = some x6 := (hf 6 _ rfl)
  have b6 := hbm x6.1 (by simp)
  have g7 : DataW.trod enc Tryd.prog w base spare held n 4 [v10] = some x7 := (hf 7 _ rfl)
  have b7 := hbm x7.1 (by simp)
  obtain ⟨n0, rfl, r0⟩ := read_int Tryd.underlying3 g0
  obtain ⟨n1, rfl, r1⟩ := read_int Tryd.underlying3 g1
  obtain ⟨n3, rfl, r3⟩ := read_int Tryd.underlying3 g3
  obtain ⟨n2, rfl, r2⟩ := read_int Tryd.underlying22 g2
  obtain ⟨a, b, c, d, e4, ra, rb, rc, rd⟩ := read_four g4
  cases e4
  obtain ⟨A, l, c', rfl, hC, hB, hc, hl5⟩ := read_bytes g5
  obtain ⟨L, ll, d', rfl, hL⟩ := read_list g6 (by omega)
  obtain ⟨m, rfl⟩ := read_bool g7
  exact ⟨⟨n0, n1, n2, n3, a, b, c, d, l, ll, m⟩, A, c', L, d', rfl, ⟨r0, r1, r2, r3, ra, rb, rc, rd, by show l.length ≤ _; omega, hC, hL⟩⟩
set_option maxRecDepth 100000 in
theorem read_hdl {cs : List Value} (h : DataW.trod enc Tryd.prog w base spare held fuel 32 cs = some x) (hb : uptoBulk x.1 ≤ 1048576) : ∃ a b c s, cs = [.int .i64 a, .int .i64 b, .int .i64 c, .string s] ∧ IntR a ∧ IntR b ∧ IntR c ∧ s.size ≤ 1048576 := by
  obtain ⟨xs, n, _, rfl, hl, hlen, hf⟩ := DataW.trod_struct Tryd.underlying32 h
  rw [show Tryd.prog.cellsOf 32 = 4 by kernel_rfl] at hl
  match cs, hl, xs, hlen with
  | v0 :: v1 :: v2 :: v3 :: [], _, [x0, x1, x2, x3], _ =>
  have hbm : ∀ d ∈ [x0.1, x1.1, x2.1, x3.1], uptoBulk d ≤ 1048575 := fun d hd => by
    have h1 := bulk_mem hd
    simp only [List.map_cons, List.map_nil, uptoBulk] at hb
    omega
  have g0 : DataW.trod enc Tryd.prog w base spare held n 3 [v0] = some x0 := (hf 0 _ rfl)
  have b0 := hbm x0.1 (by simp)
  have g1 : DataW.trod enc Tryd.prog w base spare held n 3 [v1] = some x1 := (hf 1 _ rfl)
  have b1 := hbm x1.1 (by simp)
  have g2 : DataW.trod enc Tryd.prog w base spare held n 3 [v2] = some x2 := (hf 2 _ rfl)
  have b2 := hbm x2.1 (by simp)
  have g3 : DataW.trod enc Tryd.prog w base spare held n 9 [v3] = some x3 := (hf 3 _ rfl)
  have b3 := hbm x3.1 (by simp)
  obtain ⟨n0, rfl, r0⟩ := read_int Tryd.underlying3 g0
  obtain ⟨n1, rfl, r1⟩ := read_int Tryd.underlying3 g1
  obtain ⟨n2, rfl, r2⟩ := read_int Tryd.underlying3 g2
  obtain ⟨s3, rfl, r3⟩ := read_str g3
  exact ⟨n0, n1, n2, s3, rfl, r0, r1, r2, by omega⟩
theorem bs_in {l : List Int} {A : Option Addr} {c : Nat} (hC : Kd.C (Kd.int .u8) w A l.length l) (hB : bytesOf (strOfNums l) = l) (hc : l.length ≤ c) (hl : l.length ≤ 1048576) : BsIn w l A c := ⟨bytes_of hB, hl, hC, hc⟩
set_option maxRecDepth 100000 in
theorem read_kept {cs : List Value} (h : DataW.trod enc Tryd.prog w base spare held fuel 34 cs = some x) (hb : uptoBulk x.1 ≤ 1048576) : ∃ a b c l A c', cs = [.int .i64 a, .int .i64 b, .int .i64 c, .slice A (List.length l) c'] ∧ IntR a ∧ IntR b ∧ IntR c ∧ BsIn w l A c' := by
  obtain ⟨xs, n, _, rfl, hl, hlen, hf⟩ := DataW.trod_struct Tryd.underlying34 h
  rw [show Tryd.prog.cellsOf 34 = 4 by kernel_rfl] at hl
  match cs, hl, xs, hlen with
  | v0 :: v1 :: v2 :: v3 :: [], _, [x0, x1, x2, x3], _ =>
  have hbm : ∀ d ∈ [x0.1, x1.1, x2.1, x3.1], uptoBulk d ≤ 1048575 := fun d hd => by
    have h1 := bulk_mem hd
    simp only [List.map_cons, List.map_nil, uptoBulk] at hb
    omega
  have g0 : DataW.trod enc Tryd.prog w base spare held n 3 [v0] = some x0 := (hf 0 _ rfl)
  have b0 := hbm x0.1 (by simp)
  have g1 : DataW.trod enc Tryd.prog w base spare held n 3 [v1] = some x1 := (hf 1 _ rfl)
  have b1 := hbm x1.1 (by simp)
  have g2 : DataW.trod enc Tryd.prog w base spare held n 3 [v2] = some x2 := (hf 2 _ rfl)
  have b2 := hbm x2.1 (by simp)
  have g3 : DataW.trod enc Tryd.prog w base spare held n 23 [v3] = some x3 := (hf 3 _ rfl)
  have b3 := hbm x3.1 (by simp)
  obtain ⟨n0, rfl, r0⟩ := read_int Tryd.underlying3 g0
  obtain ⟨n1, rfl, r1⟩ := read_int Tryd.underlying3 g1
  obtain ⟨n2, rfl, r2⟩ := read_int Tryd.underlying3 g2
  obtain ⟨A, l, c', rfl, hC, hB, hc, hl5⟩ := read_bytes g3
  exact ⟨n0, n1, n2, l, A, c', rfl, r0, r1, r2, bs_in hC hB hc (by omega)⟩
set_option maxRecDepth 100000 in
theorem read_flt {cs : List Value} (h : DataW.trod enc Tryd.prog w base spare held fuel 36 cs = some x) (hb : uptoBulk x.1 ≤ 1048576) : ∃ a b l A c', cs = [.int .i64 a, .int .i64 b, .slice A (List.length l) c'] ∧ IntR a ∧ IntR b ∧ BsIn w l A c' := by
  obtain ⟨xs, n, _, rfl, hl, hlen, hf⟩ := DataW.trod_struct Tryd.underlying36 h
  rw [show Tryd.prog.cellsOf 36 = 3 by kernel_rfl] at hl
  match cs, hl, xs, hlen with
  | v0 :: v1 :: v2 :: [], _, [x0, x1, x2], _ =>
  have hbm : ∀ d ∈ [x0.1, x1.1, x2.1], uptoBulk d ≤ 1048575 := fun d hd => by
    have h1 := bulk_mem hd
    simp only [List.map_cons, List.map_nil, uptoBulk] at hb
    omega
  have g0 : DataW.trod enc Tryd.prog w base spare held n 3 [v0] = some x0 := (hf 0 _ rfl)
  have b0 := hbm x0.1 (by simp)
  have g1 : DataW.trod enc Tryd.prog w base spare held n 3 [v1] = some x1 := (hf 1 _ rfl)
  have b1 := hbm x1.1 (by simp)
  have g2 : DataW.trod enc Tryd.prog w base spare held n 23 [v2] = some x2 := (hf 2 _ rfl)
  have b2 := hbm x2.1 (by simp)
  obtain ⟨n0, rfl, r0⟩ := read_int Tryd.underlying3 g0
  obtain ⟨n1, rfl, r1⟩ := read_int Tryd.underlying3 g1
  obtain ⟨A, l, c', rfl, hC, hB, hc, hl5⟩ := read_bytes g2
  exact ⟨n0, n1, l, A, c', rfl, r0, r1, bs_in hC hB hc (by omega)⟩
set_option maxRecDepth 100000 in
set_option maxHeartbeats 1000000 in
/-- An event that came in. -/
theorem read_ev {cs : List Value} (h : DataW.trod enc Tryd.prog w base spare held fuel 38 cs = some x) (hb : uptoBulk x.1 ≤ 1048576) : ∃ e p, cs = Ev.cells e p ∧ EvIn w e p := by
  obtain ⟨xs, n, _, rfl, hl, hlen, hf⟩ := DataW.trod_struct Tryd.underlying38 h
  rw [show Tryd.prog.cellsOf 38 = 36 by kernel_rfl] at hl
  match cs, hl, xs, hlen with
  | v0 :: v1 :: v2 :: v3 :: v4 :: v5 :: v6 :: v7 :: v8 :: v9 :: v10 :: v11 :: v12 :: v13 :: v14 :: v15 :: v16 :: v17 :: v18 :: v19 :: v20 :: v21 :: v22 :: v23 :: v24 :: v25 :: v26 :: v27 :: v28 :: v29 :: v30 :: v31 :: v32 :: v33 :: v34 :: v35 :: [], _, [x0, x1, x2, x3, x4, x5, x6, x7, x8, x9], _ =>
  have hbm : ∀ d ∈ [x0.1, x1.1, x2.1, x3.1, x4.1, x5.1, x6.1, x7.1, x8.1, x9.1], uptoBulk d ≤ 1048575 := fun d hd => by
    have h1 := bulk_mem hd
    simp only [List.map_cons, List.map_nil, uptoBulk] at hb
    omega
  have g0 : DataW.trod enc Tryd.prog w base spare held n 3 [v0] = some x0 := (hf 0 _ rfl)
  have b0 := hbm x0.1 (by simp)
  have g1 : DataW.trod enc Tryd.prog w base spare held n 3 [v1] = some x1 := (hf 1 _ rfl)
  have b1 := hbm x1.1 (by simp)
  have g2 : DataW.trod enc Tryd.prog w base spare held n 3 [v2] = some x2 := (hf 2 _ rfl)
  have b2 := hbm x2.1 (by simp)
  have g3 : DataW.trod enc Tryd.prog w base spare held n 3 [v3] = some x3 := (hf 3 _ rfl)
  have b3 := hbm x3.1 (by simp)
  have g4 : DataW.trod enc Tryd.prog w base spare held n 22 [v4] = some x4 := (hf 4 _ rfl)
  have b4 := hbm x4.1 (by simp)
  have g5 : DataW.trod enc Tryd.prog w base spare held n 25 [v5, v6, v7, v8, v9, v10, v11, v12, v13] = some x5 := (hf 5 _ rfl)
  have b5 := hbm x5.1 (by simp)
  have g6 : DataW.trod enc Tryd.prog w base spare held n 30 [v14, v15, v16, v17, v18, v19, v20, v21, v22, v23, v24] = some x6 := (hf 6 _ rfl)
  have b6 := hbm x6.1 (by simp)
  have g7 : DataW.trod enc Tryd.prog w base spare held n 32 [v25, v26, v27, v28] = some x7 := (hf 7 _ rfl)
  have b7 := hbm x7.1 (by simp)
  have g8 : DataW.trod enc Tryd.prog w base spare held n 34 [v29, v30, v31, v32] = some x8 := (hf 8 _ rfl)
  have b8 := hbm x8.1 (by simp)
  have g9 : DataW.trod enc Tryd.prog w base spare held n 36 [v33, v34, v35] = some x9 := (hf 9 _ rfl)
  have b9 := hbm x9.1 (by simp)
  obtain ⟨n0, rfl, r0⟩ := read_int Tryd.underlying3 g0
  obtain ⟨n1, rfl, r1⟩ := read_int Tryd.underlying3 g1
  obtain ⟨n2, rfl, r2⟩ := read_int Tryd.underlying3 g2
  obtain ⟨n3, rfl, r3⟩ := read_int Tryd.underlying3 g3
  obtain ⟨n4, rfl, r4⟩ := read_int Tryd.underlying22 g4
  obtain ⟨c, A1, c1, e5, i5, k5⟩ := read_call g5 (by omega)
  obtain ⟨r, A2, c2, A3, c3, e6, i6⟩ := read_res g6 (by omega)
  obtain ⟨hn, hi, he, hp, e7, i71, i72, i73, i74⟩ := read_hdl g7 (by omega)
  obtain ⟨ka, kb, kc, kl, A4, c4, e8, i81, i82, i83, i84⟩ := read_kept g8 (by omega)
  obtain ⟨fa, fb, fl, A5, c5, e9, i91, i92, i93⟩ := read_flt g9 (by omega)
  refine ⟨⟨n0, n1, n2, n3, n4, c, r, hn, hi, he, hp, ka, kb, kc, kl, fa, fb, fl⟩, ⟨A1, c1, A2, c2, A3, c3, A4, c4, A5, c5⟩, ?_, ⟨r1, r2, r3, r4, i5, k5, i6, i71, i72, i73, i74, i81, i82, i83, i84, i91, i92, i93⟩⟩
  unfold Cl.cells at e5
  unfold Rs.cells at e6
  cases e5
  cases e6
  cases e7
  cases e8
  cases e9
  rfl
end
end Go.Proofs.YtekgdlpicgibhabDoor.SH
