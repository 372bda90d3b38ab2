/-
  Proved: QueuePlays: for every script the law answers true: two queues answer as the document says, call by call; what was handed out stays as its holder wrote it. No condition.
-/
import Derived.Test.YtekgdlpicgibhaaRows
import Derived.Test.YtekgdlpicgibhaaP5
import Derived.Test.YtekgdlpicgibhaaClose
import Derived.Test.YtekgdlpicgibhaaReadO
import Derived.ProofKit
import Derived.OpenShut
import Derived.SizedLaws
import Derived.BigQuiet
namespace Go.Proofs.Ytekgdlpicgibhaa.Plays
open Go.ChangeShapes Go.WideShapes Go.ChangeAt Go.RowKit Go.Proofs.YtekgdlpicgibhaaW.PrintWords Go.Proofs.YtekgdlpicgibhaaRead Go.Proofs.Ytekgdlpicgibhaa.QQ Go.Proofs.Ytekgdlpicgibhaa.QI

theorem i64_and1 (n : Int) : bits .and .i64 n 1 = n % 2 := by
  have h127 : (BitVec.ofInt 64 1).toNat = 2 ^ 1 - 1 := by decide
  have key : (BitVec.ofInt 64 n &&& BitVec.ofInt 64 1).toNat = (n % ((2 ^ 64 : Nat) : Int)).toNat % 2 ^ 1 := by
    rw [BitVec.toNat_and, BitVec.toNat_ofInt, h127, Nat.and_two_pow_sub_one_eq_mod]
  show IntKind.i64.wrap ((BitVec.ofInt 64 n &&& BitVec.ofInt 64 1).toNat : Nat) = n % 2
  rw [key, IntKind.wrap_i64]
  omega
theorem op_cells {w w1 : World} {kd who a b : Int} (hb : Below (w.alloc (.cells #[.int .i64 kd, .int .i64 who, .int .i64 a, .int .i64 b] 53)).heap.size (w.alloc (.cells #[.int .i64 kd, .int .i64 who, .int .i64 a, .int .i64 b] 53)) w1) :
    w1.cell? ⟨w.heap.size, 0, none⟩ = some (.int .i64 kd) ∧ w1.cell? ⟨w.heap.size, 1, none⟩ = some (.int .i64 who) ∧ w1.cell? ⟨w.heap.size, 2, none⟩ = some (.int .i64 a) ∧ w1.cell? ⟨w.heap.size, 3, none⟩ = some (.int .i64 b) := by
  have h := (hb.block w.heap.size (by simp)).trans (heap_alloc_new w _)
  exact ⟨(blk_cell h 0).trans rfl, (blk_cell h 1).trans rfl, (blk_cell h 2).trans rfl, (blk_cell h 3).trans rfl⟩
theorem qs_cells {w0 w : World} {pb : Nat} {f : Nat → Nat} {q0 r0 q1 r1 vb : Value} {es : List KE} (h : QS w0 w pb f q0 r0 q1 r1 vb es) :
    (∀ j, w.frozen? ⟨pb, j, none⟩ = false) ∧ w.cell? ⟨pb, 0, none⟩ = some q0 ∧ w.cell? ⟨pb, 1, none⟩ = some r0 ∧ w.cell? ⟨pb, 2, none⟩ = some q1 ∧ w.cell? ⟨pb, 3, none⟩ = some r1 :=
  ⟨fun j => by simp [World.frozen?, h.slots], (blk_cell h.slots 0).trans rfl, (blk_cell h.slots 1).trans rfl, (blk_cell h.slots 2).trans rfl, (blk_cell h.slots 3).trans rfl⟩
theorem step0 {w0 w : World} {pb : Nat} {f : Nat → Nat} {q0 r0 q1 r1 vb : Value} {es : List KE} (h : QS w0 w pb f q0 r0 q1 r1 vb es) {qb rb : Nat} {q : QM Int} {S1 S2 : Nat → Prop} (hq : q0 = .pointer (some ⟨qb, 0, none⟩)) (hr : r0 = .pointer (some ⟨rb, 0, none⟩)) (hP : PIn w w0.heap.size S1 S2 qb rb q) (hT : ∀ k, S1 k ∨ S2 k → f k = 1) (kd who a b : Int) (n : Nat) :
    Calls Try.prog 22 #[.agg #[.pointer (some ⟨qb, 0, none⟩), .pointer (some ⟨rb, 0, none⟩)], .agg #[.int .i64 kd, .int .i64 who, .int .i64 a, .int .i64 b]] ((w.alloc (.cells #[.int .i64 kd, .int .i64 who, .int .i64 a, .int .i64 b] 53)).drewN n) fun e w' =>
      ∃ v xs f', e = .returned (.tuple #[.bool true, v]) ∧ K.R 3 w' w.heap.size (fun _ => True) v xs ∧ xs.length ≤ 64 ∧ QS w0 w' pb f' q0 r0 q1 r1 vb es ∧ (∀ k, v.ownBlock = some k → f' k = 6) ∧ (kd ≠ 5 → v = .slice none 0 0) ∧ w'.cell? ⟨w.heap.size, 0, none⟩ = some (.int .i64 kd) := by
  have hb : Below w.heap.size w ((w.alloc (.cells #[.int .i64 kd, .int .i64 who, .int .i64 a, .int .i64 b] 53)).drewN n) := pw_below_drewN (below_alloc (Below.refl _ w) _) n
  refine (plays_any (hP.below hb) kd who a b).mono ?_
  intro e w' hp
  have hp2 := hp
  obtain ⟨_, _, _, _, _, _, _, _, _, _, _, _, ho, _⟩ := hp2
  obtain ⟨v, xs, f', rfl, hR, hx, hQ, h6, h5⟩ := (h.later hb).stepped0 hq hr (hP.below hb) hT hp
  refine ⟨v, xs, f', rfl, Kd.R_lower hR hb.size, hx, hQ, h6, h5, ?_⟩
  have hblk := (ho.block w.heap.size (by simp) (fun hs => hs.elim (fun hs => by have := hP.hi1 _ hs; omega) (fun hs => by have := hP.hi2 _ hs; omega))).trans (heap_alloc_new w (.cells #[.int .i64 kd, .int .i64 who, .int .i64 a, .int .i64 b] 53))
  exact (blk_cell hblk 0).trans rfl
theorem step1 {w0 w : World} {pb : Nat} {f : Nat → Nat} {q0 r0 q1 r1 vb : Value} {es : List KE} (h : QS w0 w pb f q0 r0 q1 r1 vb es) {qb rb : Nat} {q : QM Int} {S1 S2 : Nat → Prop} (hq : q1 = .pointer (some ⟨qb, 0, none⟩)) (hr : r1 = .pointer (some ⟨rb, 0, none⟩)) (hP : PIn w w0.heap.size S1 S2 qb rb q) (hT : ∀ k, S1 k ∨ S2 k → f k = 2) (kd who a b : Int) (n : Nat) :
    Calls Try.prog 22 #[.agg #[.pointer (some ⟨qb, 0, none⟩), .pointer (some ⟨rb, 0, none⟩)], .agg #[.int .i64 kd, .int .i64 who, .int .i64 a, .int .i64 b]] ((w.alloc (.cells #[.int .i64 kd, .int .i64 who, .int .i64 a, .int .i64 b] 53)).drewN n) fun e w' =>
      ∃ v xs f', e = .returned (.tuple #[.bool true, v]) ∧ K.R 3 w' w.heap.size (fun _ => True) v xs ∧ xs.length ≤ 64 ∧ QS w0 w' pb f' q0 r0 q1 r1 vb es ∧ (∀ k, v.ownBlock = some k → f' k = 6) ∧ (kd ≠ 5 → v = .slice none 0 0) ∧ w'.cell? ⟨w.heap.size, 0, none⟩ = some (.int .i64 kd) := by
  have hb : Below w.heap.size w ((w.alloc (.cells #[.int .i64 kd, .int .i64 who, .int .i64 a, .int .i64 b] 53)).drewN n) := pw_below_drewN (below_alloc (Below.refl _ w) _) n
  refine (plays_any (hP.below hb) kd who a b).mono ?_
  intro e w' hp
  have hp2 := hp
  obtain ⟨_, _, _, _, _, _, _, _, _, _, _, _, ho, _⟩ := hp2
  obtain ⟨v, xs, f', rfl, hR, hx, hQ, h6, h5⟩ := (h.later hb).stepped1 hq hr (hP.below hb) hT hp
  refine ⟨v, xs, f', rfl, Kd.R_lower hR hb.size, hx, hQ, h6, h5, ?_⟩
  have hblk := (ho.block w.heap.size (by simp) (fun hs => hs.elim (fun hs => by have := hP.hi1 _ hs; omega) (fun hs => by have := hP.hi2 _ hs; omega))).trans (heap_alloc_new w (.cells #[.int .i64 kd, .int .i64 who, .int .i64 a, .int .i64 b] 53))
  exact (blk_cell hblk 0).trans rfl
theorem qs_start {w W : World} (hb : Below w.heap.size w W) : QS w (W.alloc (.cells #[.pointer none, .pointer none, .pointer none, .pointer none] 50)) W.heap.size (fun k => if k = W.heap.size then 5 else 0) (.pointer none) (.pointer none) (.pointer none) (.pointer none) (.slice none 0 0) [] where
  below := hb.trans ((below_alloc (Below.refl _ _) _).mono hb.size)
  slots := heap_alloc_new _ _
  fpb := by simp
  s0 := .inl ⟨rfl, rfl⟩
  s1 := .inl ⟨rfl, rfl⟩
  book := Kd.R_nil _ _ _ _ _
  fb := fun k hk => by simp [Value.ownBlock] at hk
  held := fun x hx => by cases hx
  base := fun k hk => by
    have := hb.size
    by_cases e : k = W.heap.size
    · omega
    · simp [e] at hk
  le := by simp

variable {w : World}
set_option maxRecDepth 100000 in
set_option maxHeartbeats 8000000 in
theorem walk (A : Option Addr) (len cap : Nat) (_xs : Unit) (hr : OpsAt w A len) (hl : len * 32 ≤ 140737488351232) :
    Calls Try.prog 7 #[.slice A len cap] w fun e w' => e = .returned (.bool true) ∧ Below w.heap.size w w' := by
  have HC := Lib.hid hr
  clear hr
  go_enter Try.func7, Try.ntmps7
  go_wp2_with fail
  refine (known _).mono ?_
  rintro e w1 ⟨rfl, hb⟩
  have H0 := Lib.hid (qs_start hb)
  clear hb
  go_wp2
  go_loopw [3, 5, 6] (fun okv bv i wr => ∃ k : Nat, ∃ f q0 r0 q1 r1 es, k ≤ len ∧ okv = .bool true ∧ i = .int .i64 k ∧ QS w wr w1.heap.size f q0 r0 q1 r1 bv es) (fun _ _ i _ => len - (intOf i).toNat)
  case atStart => exact ⟨0, _, _, _, _, _, _, Nat.zero_le _, rfl, rfl, H0.out⟩
  case round =>
    obtain ⟨k, f, q0, r0, q1, r1, es, hk, rfl, rfl, hs⟩ := hrel
    obtain ⟨Ab, cb, rfl⟩ := Kd.R_slice hs.book
    by_cases hlt : k < len
    · obtain ⟨ad, kd, who, a, b, hA, had, z0, z1, z2, z3⟩ := HC.out k hlt
      subst hA
      have HS := Lib.hid hs
      have hbl : Below w.heap.size w wr := hs.below
      have hab : (ad.add (k * 4)).block = ad.block := by unfold Addr.add; split <;> rfl
      have x0 := (hbl.cell (p := ad.add (k * 4)) (by rw [hab]; exact had)).trans z0
      have x1 := (hbl.cell (p := ⟨(ad.add (k * 4)).block, (ad.add (k * 4)).off + 1, none⟩) (by rw [hab]; exact had)).trans z1
      have x2 := (hbl.cell (p := ⟨(ad.add (k * 4)).block, (ad.add (k * 4)).off + 2, none⟩) (by rw [hab]; exact had)).trans z2
      have x3 := (hbl.cell (p := ⟨(ad.add (k * 4)).block, (ad.add (k * 4)).off + 3, none⟩) (by rw [hab]; exact had)).trans z3
      clear hs H0 z0 z1 z2 z3 hab hbl
      have hc2 : bits .and .i64 who 1 = 0 ∨ bits .and .i64 who 1 = 1 := by rw [i64_and1]; omega
      rcases hc2 with hc | hc
      · have e29 : bits .and .i64 who 1 = 0 := hc
        clear hc
        have HZ0 := Lib.hid (HS.out.later (below_alloc (Below.refl _ wr) (.cells #[.int .i64 kd, .int .i64 who, .int .i64 a, .int .i64 b] 53)))
        obtain ⟨fz, v0, v1, v2, v3⟩ := qs_cells HZ0.out
        by_cases hk1 : kd = 1
        · subst hk1
          clear fz v0 v1 v2 v3
          by_cases hok : 1 ≤ a ∧ a ≤ 64 ∧ 1 ≤ b ∧ b ≤ 64
          · obtain ⟨g1, g2, g3, g4⟩ := hok
            go_wp2_with fail
            refine (new_any a b _ g1 g2 g3 g4).mono ?_
            rintro e w3 ⟨qb, rfl, hq, hb3⟩
            obtain ⟨y0, y1, y2, y3⟩ := op_cells hb3
            have HQ := Lib.hid hq
            have HB3 := Lib.hid hb3
            clear hq hb3
            go_wp2_with fail
            refine (rnew_yes a b _ g1 g2 g3 g4).mono ?_
            rintro e w4 ⟨rb, rfl, hq4, hb4⟩
            have hP := PIn.new (B := w.heap.size) (Nat.le_trans HS.out.below.size (by simp)) HQ.out HB3.out hq4 hb4 (QM.empty_wf (by omega) (by omega) (by omega) (by omega))
            have hall : Below wr.heap.size wr w4 := ((below_alloc (Below.refl _ wr) _).trans (HB3.out.mono (by simp))).trans (hb4.mono (by have := HB3.out.size; simp at this; omega))
            obtain ⟨fz, v0, v1, v2, v3⟩ := qs_cells (HS.out.later hall)
            have hf0 := fz 0
            have hf1 := fz 1
            have hput := HS.out.put0 hall hP (fun k h => by have := HB3.out.size; simp at h this; omega)
            obtain ⟨fN, hput⟩ := hput
            have HZ := Lib.hid hput
            clear hP hput hq4 hb4 hall fz
            go_wp2_with fail
            refine (holds_any HZ.out.book HZ.out.hold (by have := HZ.out.le; omega)).mono ?_
            rintro e w9 ⟨rfl, m9, rfl⟩
            have HZ9 := Lib.hid (HZ.out.later (pw_below_drewN (Below.refl _ _) m9))
            go_wp2
            go_roundw
            case rel => exact ⟨k + 1, _, _, _, _, _, _, hlt, rfl, by go_num, HZ9.out⟩
            case measure => simp [intOf]; omega
          · have HZ := HZ0
            go_wp2_with fail
            refine (new_no a b _ hok).mono ?_
            rintro e w' ⟨rfl, rfl⟩
            go_wp2_with fail
            refine (rnew_no a b _ hok).mono ?_
            rintro e w' ⟨rfl, rfl⟩
            go_wp2_with fail
            refine (holds_any HZ.out.book HZ.out.hold (by have := HZ.out.le; omega)).mono ?_
            rintro e w9 ⟨rfl, m9, rfl⟩
            have HZ9 := Lib.hid (HZ.out.later (pw_below_drewN (Below.refl _ _) m9))
            go_wp2
            go_roundw
            case rel => exact ⟨k + 1, _, _, _, _, _, _, hlt, rfl, by go_num, HZ9.out⟩
            case measure => simp [intOf]; omega
        · have t1 : (kd == 1) = false := beq_eq_false_iff_ne.2 hk1
          rcases HS.out.s0 with ⟨rfl, rfl⟩ | ⟨qb, rb, q, S1, S2, rfl, rfl, hP, hT⟩
          · have HZ := HZ0
            go_wp2_with fail
            refine (holds_any HZ.out.book HZ.out.hold (by have := HZ.out.le; omega)).mono ?_
            rintro e w9 ⟨rfl, m9, rfl⟩
            have HZ9 := Lib.hid (HZ.out.later (pw_below_drewN (Below.refl _ _) m9))
            go_wp2
            go_roundw
            case rel => exact ⟨k + 1, _, _, _, _, _, _, hlt, rfl, by go_num, HZ9.out⟩
            case measure => simp [intOf]; omega
          · have HP := Lib.hid hP
            have HT := Lib.hid hT
            clear hP hT
            go_upto_region 17 with fail
            go_region_law (go_simp; go_at_call 22; refine (step0 HS.out rfl rfl HP.out HT.out kd who a b _).mono ?_; rintro e w3 ⟨v, xs, f', rfl, hR, hx, hQ, h6, h5, hk0⟩; have HR := Lib.hid hR; have HQ := Lib.hid hQ; have H6 := Lib.hid h6; clear hR hQ h6 h5)
            all_goals
              obtain ⟨A3, c3, e3⟩ := Kd.R_slice HR.out
              subst e3
              by_cases hk5 : kd = 5 ∧ es.length < 600
              · obtain ⟨rfl, hes⟩ := hk5
                have hes2 : (es.length : Int) < 600 := by omega
                go_wp2_with fail
                refine (keep_any HQ.out.book HR.out HQ.out.below.size (Nat.le_of_lt (World.block_lt_of_cell? w3 _ hk0)) hx (by omega) _).mono ?_
                rintro e w5 hk3
                obtain ⟨v', fK, es', rfl, hz⟩ := HQ.out.kept H6.out hx hes hk3
                have HZ := Lib.hid hz
                clear hz hk3
                go_wp2_with fail
                refine (holds_any HZ.out.book HZ.out.hold (by have := HZ.out.le; omega)).mono ?_
                rintro e w9 ⟨rfl, m9, rfl⟩
                have HZ9 := Lib.hid (HZ.out.later (pw_below_drewN (Below.refl _ _) m9))
                go_wp2
                go_roundw
                case rel => exact ⟨k + 1, _, _, _, _, _, _, hlt, rfl, by go_num, HZ9.out⟩
                case measure => simp [intOf]; omega
              · have hk5' : kd ≠ 5 ∨ (kd = 5 ∧ 600 ≤ (es.length : Int)) := by omega
                clear hk5
                have HZ := HQ
                rcases hk5' with hk5 | ⟨rfl, hes⟩
                · have t5 : (kd == 5) = false := beq_eq_false_iff_ne.2 hk5
                  go_wp2_with fail
                  refine (holds_any HZ.out.book HZ.out.hold (by have := HZ.out.le; omega)).mono ?_
                  rintro e w9 ⟨rfl, m9, rfl⟩
                  have HZ9 := Lib.hid (HZ.out.later (pw_below_drewN (Below.refl _ _) m9))
                  go_wp2
                  go_roundw
                  case rel => exact ⟨k + 1, _, _, _, _, _, _, hlt, rfl, by go_num, HZ9.out⟩
                  case measure => simp [intOf]; omega
                · skip
                  go_wp2_with fail
                  refine (holds_any HZ.out.book HZ.out.hold (by have := HZ.out.le; omega)).mono ?_
                  rintro e w9 ⟨rfl, m9, rfl⟩
                  have HZ9 := Lib.hid (HZ.out.later (pw_below_drewN (Below.refl _ _) m9))
                  go_wp2
                  go_roundw
                  case rel => exact ⟨k + 1, _, _, _, _, _, _, hlt, rfl, by go_num, HZ9.out⟩
                  case measure => simp [intOf]; omega
      · have e29 : bits .and .i64 who 1 = 1 := hc
        clear hc
        have HZ0 := Lib.hid (HS.out.later (below_alloc (Below.refl _ wr) (.cells #[.int .i64 kd, .int .i64 who, .int .i64 a, .int .i64 b] 53)))
        obtain ⟨fz, v0, v1, v2, v3⟩ := qs_cells HZ0.out
        by_cases hk1 : kd = 1
        · subst hk1
          clear fz v0 v1 v2 v3
          by_cases hok : 1 ≤ a ∧ a ≤ 64 ∧ 1 ≤ b ∧ b ≤ 64
          · obtain ⟨g1, g2, g3, g4⟩ := hok
            go_wp2_with fail
            refine (new_any a b _ g1 g2 g3 g4).mono ?_
            rintro e w3 ⟨qb, rfl, hq, hb3⟩
            obtain ⟨y0, y1, y2, y3⟩ := op_cells hb3
            have HQ := Lib.hid hq
            have HB3 := Lib.hid hb3
            clear hq hb3
            go_wp2_with fail
            refine (rnew_yes a b _ g1 g2 g3 g4).mono ?_
            rintro e w4 ⟨rb, rfl, hq4, hb4⟩
            have hP := PIn.new (B := w.heap.size) (Nat.le_trans HS.out.below.size (by simp)) HQ.out HB3.out hq4 hb4 (QM.empty_wf (by omega) (by omega) (by omega) (by omega))
            have hall : Below wr.heap.size wr w4 := ((below_alloc (Below.refl _ wr) _).trans (HB3.out.mono (by simp))).trans (hb4.mono (by have := HB3.out.size; simp at this; omega))
            obtain ⟨fz, v0, v1, v2, v3⟩ := qs_cells (HS.out.later hall)
            have hf0 := fz 2
            have hf1 := fz 3
            have hput := HS.out.put1 hall hP (fun k h => by have := HB3.out.size; simp at h this; omega)
            obtain ⟨fN, hput⟩ := hput
            have HZ := Lib.hid hput
            clear hP hput hq4 hb4 hall fz
            go_wp2_with fail
            refine (holds_any HZ.out.book HZ.out.hold (by have := HZ.out.le; omega)).mono ?_
            rintro e w9 ⟨rfl, m9, rfl⟩
            have HZ9 := Lib.hid (HZ.out.later (pw_below_drewN (Below.refl _ _) m9))
            go_wp2
            go_roundw
            case rel => exact ⟨k + 1, _, _, _, _, _, _, hlt, rfl, by go_num, HZ9.out⟩
            case measure => simp [intOf]; omega
          · have HZ := HZ0
            go_wp2_with fail
            refine (new_no a b _ hok).mono ?_
            rintro e w' ⟨rfl, rfl⟩
            go_wp2_with fail
            refine (rnew_no a b _ hok).mono ?_
            rintro e w' ⟨rfl, rfl⟩
            go_wp2_with fail
            refine (holds_any HZ.out.book HZ.out.hold (by have := HZ.out.le; omega)).mono ?_
            rintro e w9 ⟨rfl, m9, rfl⟩
            have HZ9 := Lib.hid (HZ.out.later (pw_below_drewN (Below.refl _ _) m9))
            go_wp2
            go_roundw
            case rel => exact ⟨k + 1, _, _, _, _, _, _, hlt, rfl, by go_num, HZ9.out⟩
            case measure => simp [intOf]; omega
        · have t1 : (kd == 1) = false := beq_eq_false_iff_ne.2 hk1
          rcases HS.out.s1 with ⟨rfl, rfl⟩ | ⟨qb, rb, q, S1, S2, rfl, rfl, hP, hT⟩
          · have HZ := HZ0
            go_wp2_with fail
            refine (holds_any HZ.out.book HZ.out.hold (by have := HZ.out.le; omega)).mono ?_
            rintro e w9 ⟨rfl, m9, rfl⟩
            have HZ9 := Lib.hid (HZ.out.later (pw_below_drewN (Below.refl _ _) m9))
            go_wp2
            go_roundw
            case rel => exact ⟨k + 1, _, _, _, _, _, _, hlt, rfl, by go_num, HZ9.out⟩
            case measure => simp [intOf]; omega
          · have HP := Lib.hid hP
            have HT := Lib.hid hT
            clear hP hT
            go_upto_region 17 with fail
            go_region_law (go_simp; go_at_call 22; refine (step1 HS.out rfl rfl HP.out HT.out kd who a b _).mono ?_; rintro e w3 ⟨v, xs, f', rfl, hR, hx, hQ, h6, h5, hk0⟩; have HR := Lib.hid hR; have HQ := Lib.hid hQ; have H6 := Lib.hid h6; clear hR hQ h6 h5)
            all_goals
              obtain ⟨A3, c3, e3⟩ := Kd.R_slice HR.out
              subst e3
              by_cases hk5 : kd = 5 ∧ es.length < 600
              · obtain ⟨rfl, hes⟩ := hk5
                have hes2 : (es.length : Int) < 600 := by omega
                go_wp2_with fail
                refine (keep_any HQ.out.book HR.out HQ.out.below.size (Nat.le_of_lt (World.block_lt_of_cell? w3 _ hk0)) hx (by omega) _).mono ?_
                rintro e w5 hk3
                obtain ⟨v', fK, es', rfl, hz⟩ := HQ.out.kept H6.out hx hes hk3
                have HZ := Lib.hid hz
                clear hz hk3
                go_wp2_with fail
                refine (holds_any HZ.out.book HZ.out.hold (by have := HZ.out.le; omega)).mono ?_
                rintro e w9 ⟨rfl, m9, rfl⟩
                have HZ9 := Lib.hid (HZ.out.later (pw_below_drewN (Below.refl _ _) m9))
                go_wp2
                go_roundw
                case rel => exact ⟨k + 1, _, _, _, _, _, _, hlt, rfl, by go_num, HZ9.out⟩
                case measure => simp [intOf]; omega
              · have hk5' : kd ≠ 5 ∨ (kd = 5 ∧ 600 ≤ (es.length : Int)) := by omega
                clear hk5
                have HZ := HQ
                rcases hk5' with hk5 | ⟨rfl, hes⟩
                · have t5 : (kd == 5) = false := beq_eq_false_iff_ne.2 hk5
                  go_wp2_with fail
                  refine (holds_any HZ.out.book HZ.out.hold (by have := HZ.out.le; omega)).mono ?_
                  rintro e w9 ⟨rfl, m9, rfl⟩
                  have HZ9 := Lib.hid (HZ.out.later (pw_below_drewN (Below.refl _ _) m9))
                  go_wp2
                  go_roundw
                  case rel => exact ⟨k + 1, _, _, _, _, _, _, hlt, rfl, by go_num, HZ9.out⟩
                  case measure => simp [intOf]; omega
                · skip
                  go_wp2_with fail
                  refine (holds_any HZ.out.book HZ.out.hold (by have := HZ.out.le; omega)).mono ?_
                  rintro e w9 ⟨rfl, m9, rfl⟩
                  have HZ9 := Lib.hid (HZ.out.later (pw_below_drewN (Below.refl _ _) m9))
                  go_wp2
                  go_roundw
                  case rel => exact ⟨k + 1, _, _, _, _, _, _, hlt, rfl, by go_num, HZ9.out⟩
                  case measure => simp [intOf]; omega
    · have HS := Lib.hid hs
      clear hs H0
      go_wp2_with fail
      refine (known _).mono ?_
      rintro e w3 ⟨rfl, hb3⟩
      have HB := Lib.hid (HS.out.below.trans (hb3.mono HS.out.below.size))
      clear hb3
      go_wp2
      go_ret
      exact ⟨rfl, HB.out⟩
theorem own : ownKnob Try.prog.godebug = none := by kernel_rfl
theorem laidOut : laidOutB Try.prog = true := by kernel_rfl
set_option maxRecDepth 100000 in
theorem lifted (os : Os) (started : os.Started) (H : Type) (enc : TypeId × Value → H) :
    ReturnsInHanded {} Try.checked os 7 .any (Rows.queuePlaysSpec.pre6 enc Try.prog Try.f7 Rows.queuePlaysRow.domain false) (Rows.queuePlaysSpec.post enc Try.prog Try.f7 false true false false) := by
  refine returnsInHanded_of_change_sized (C := Try.checked) own started (by kernel_rfl) Try.func7
    (ChangeSpec.witness6 (enc := enc) (C := Try.checked) false ⟨#[], #[.slice none 0 0], []⟩ 8 (by kernel_rfl) (by kernel_rfl) (by kernel_rfl) (by kernel_rfl)) ?_
  intro W base args ds gs before hval0 hW hcnd hsz0 _
  have hval : ∀ (j : Nat) t v, Try.f7.params[j]? = some t → args[j]? = some v → Value.okWide Try.prog W .any base t v := hval0
  have hsz : (DataW.weightsEach Try.prog (Try.f7.params.toList ++ Rows.queuePlaysSpec.plain.varTypes Try.prog) (ds ++ gs)).all (· ≤ reachBytes) = true := hsz0
  have hW' := hW
  obtain ⟨p, q, hA0, hV, rfl, hfz, hnd⟩ := hW
  have hA : DataW.TrodAll enc Try.prog W 0 (fun _ => true) true Try.f7.params.toList args.toList ds p := hA0
  rw [Try.params7] at hA hval hsz
  obtain ⟨v0, vs0, d0, ds0, p0, q0, hargs, rfl, rfl, h0, r0⟩ := trodAll_cons hA
  obtain ⟨rfl, rfl, rfl⟩ := trodAll_nil r0
  obtain rfl : args = #[v0] := by cases args; simp_all
  obtain ⟨rfl, rfl⟩ := trodVars_none hV
  obtain ⟨A0, len0, cap0, rfl⟩ := okWide_slice Try.underlying46 (hval 0 46 v0 rfl rfl)
  obtain ⟨xs0, hr0, hl0⟩ := read_four (P := Try.prog) Try.underlying46 Try.underlying53 (by kernel_rfl) ⟨rfl, rfl, rfl, rfl⟩ ⟨by kernel_rfl, by kernel_rfl, by kernel_rfl, by kernel_rfl⟩ ⟨Try.underlying3, Try.underlying3, Try.underlying3, Try.underlying3⟩ (show Try.prog.bytesOf 53 = 32 by kernel_rfl) hsz (j := 0) rfl rfl h0
  clear hA0 hval0 hsz0
  simp only [List.append_nil] at hW'
  refine (walk (w := W) A0 len0 cap0 xs0 hr0 hl0).mono fun e W' ⟨he, hg⟩ => ?_
  subst he
  exact ⟨_, rfl, YtekgdlpicgibhaaClose.post_true laidOut (by rfl) Try.underlying4 rfl (by kernel_rfl) hW' rfl hg⟩

theorem proved : Rows.QueuePlaysSaid :=
  OpenClaim.holds_of_wide 7 Try.f7 rfl rfl rfl rfl rfl rfl rfl ⟨rfl, rfl, rfl, rfl, rfl⟩ rfl rfl rfl rfl rfl (by kernel_rfl) Try.func7 (by kernel_rfl)
    (of_decide_eq_true (by kernel_rfl)) (by unfold Func.isWrapper; first | (rw [if_pos (by decide +kernel)]; kernel_rfl) | (rw [if_neg (by decide +kernel)]; exact ⟨rfl, rfl⟩))
    (fun os started H enc _ => lifted os started H enc)


end Go.Proofs.Ytekgdlpicgibhaa.Plays
