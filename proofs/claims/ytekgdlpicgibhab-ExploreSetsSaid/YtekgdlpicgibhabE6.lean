/-
  like: two images hold the same where something pends.
-/
import Derived.Test.YtekgdlpicgibhabE5
import Derived.IntWalk
namespace Go.Proofs.Ytekgdlpicgibhab.EX
open Go.RowKit Go.Proofs.YtekgdlpicgibhabW.PrintWords

theorem add_add (a : Addr) (m n : Nat) : (a.add m).add n = a.add (m + n) := by
  unfold Addr.add
  cases a
  by_cases h1 : m = 0 <;> by_cases h2 : n = 0 <;> simp_all <;> omega
theorem Rd.sub {w : World} {ad : Addr} {n c c' at_ m : Nat} {xs : List Int} (h : Rd w (.slice (some ad) n c) xs) (hm : at_ + m ≤ n) : Rd w (.slice (some (ad.add at_)) m c') ((xs.drop at_).take m) := by
  have hn := h.cells.1
  have hl : ((xs.drop at_).take m).length = m := by rw [List.length_take, List.length_drop]; omega
  obtain ⟨A', c1, e, h1, h2, h3⟩ := h
  cases e
  refine ⟨some (ad.add at_), c', by rw [hl], rfl, by omega, fun hm0 => ⟨ad.add at_, rfl, fun j hj => ?_⟩⟩
  rw [hl] at hj
  obtain ⟨ad', e', hc⟩ := h3 (by omega)
  cases e'
  rw [add_add, hc (at_ + j) (by omega)]
  simp [List.getD_eq_getElem?_getD, hj, List.getElem?_drop]

theorem same_at {w : World} {A B : Option Addr} {n m c d : Nat} {xs ys : List Int} (hx : Rd w (.slice A n c) xs) (hy : Rd w (.slice B m d) ys) (hl : xs.length ≤ 1099511627776) {b : Bool} (hb : decide (xs = ys) = b) (N : Nat) :
    Calls Try.prog 17 #[.slice A n c, .slice B m d] (w.drewN N) fun e w' => e = .returned (.bool b) ∧ ∃ k, w' = w.drewN k := by
  refine (same_any (hx.drewN N) (hy.drewN N) hl).mono ?_
  rintro e w' ⟨rfl, k, rfl⟩
  exact ⟨by rw [hb], _, World.drewN_drewN ..⟩
/-- The block b of an image. -/
def blk (xs : List Int) (b : Nat) : List Int := (xs.drop (512 * b)).take 512
/-- The writes are writes of blocks below N. -/
def Ok (N : Nat) (ps : List (Int × List Int)) : Prop := ∀ p ∈ ps, 0 ≤ p.1 ∧ p.1 < N ∧ p.2.length = 512
/-- The same where something pends? -/
def likeB (xs ys : List Int) (ps : List (Int × List Int)) : Bool := ps.all fun p => decide (blk xs p.1.toNat = blk ys p.1.toNat)
theorem likeB_snoc (xs ys : List Int) (ps : List (Int × List Int)) (k : Nat) (p : Int × List Int) (hp : ps[k]? = some p) : likeB xs ys (ps.take (k + 1)) = (likeB xs ys (ps.take k) && decide (blk xs p.1.toNat = blk ys p.1.toNat)) := by
  rw [List.take_add_one, hp]
  simp [likeB, List.all_append]
theorem likeB_false {xs ys : List Int} {ps : List (Int × List Int)} {k : Nat} {p : Int × List Int} (hp : ps[k]? = some p) (h : decide (blk xs p.1.toNat = blk ys p.1.toNat) = false) : likeB xs ys ps = false := by
  rw [Bool.eq_false_iff]
  intro h2
  have := List.all_eq_true.1 h2 p (List.mem_of_getElem? hp)
  rw [h] at this
  cases this
set_option maxRecDepth 100000 in
set_option maxHeartbeats 1000000 in
theorem like_any {w : World} {A B C : Option Addr} {n m c d k0 kc N : Nat} {xs ys : List Int} {ps : List (Int × List Int)} (hx : Rd w (.slice A n c) xs) (hy : Rd w (.slice B m d) ys) (hp : PendAt w (.slice C k0 kc) ps) (hok : Ok N ps)
    (hxn : 512 * N ≤ xs.length) (hyn : 512 * N ≤ ys.length) (hxc : n ≤ c) (hyc : m ≤ d) (hL : ps.length ≤ 1099511627776) (hn4 : n ≤ 1099511627776) :
    Calls Try.prog 38 #[.slice A n c, .slice B m d, .slice C k0 kc] w fun e w' => e = .returned (.bool (likeB xs ys ps)) ∧ ∃ k, w' = w.drewN k := by
  obtain ⟨A1, c1, e1, hX⟩ := hp
  cases e1
  have HX := Lib.hid hX
  have HOK := Lib.hid hok
  have HXx := Lib.hid hx
  have HYy := Lib.hid hy
  have hxl := Lib.hid hx.cells.1
  have hyl := Lib.hid hy.cells.1
  clear hX hok hx hy
  go_enter Try.func38, Try.ntmps38
  go_wp2
  go_loopw [7] (fun i wr => ∃ k m : Nat, k ≤ ps.length ∧ i = .int .i64 k ∧ likeB xs ys (ps.take k) = true ∧ wr = w.drewN m) (fun i _ => ps.length - (intOf i).toNat)
  case atStart => exact ⟨0, 0, Nat.zero_le _, rfl, rfl, rfl⟩
  case round =>
    obtain ⟨k, m1, hk, rfl, hlk, rfl⟩ := hrel
    have HLK := Lib.hid hlk
    clear hlk
    by_cases hlt : k < ps.length
    · obtain ⟨p, hp⟩ : ∃ p, ps[k]? = some p := ⟨_, List.getElem?_eq_getElem hlt⟩
      obtain ⟨bk, x⟩ := p
      obtain ⟨h1, h2, h3⟩ := HOK.out _ (List.mem_of_getElem? hp)
      simp only at h1 h2 h3
      obtain ⟨bn, rfl⟩ := Int.eq_ofNat_of_zero_le h1
      obtain ⟨ad, A1', c1', rfl, had, hc0, _, _⟩ := HX.out k _ hp
      simp only at hc0
      have hbn : bn < N := by omega
      have hnx : 512 * bn + 512 ≤ n := by have := hxl.out; omega
      have hny : 512 * bn + 512 ≤ m := by have := hyl.out; omega
      obtain ⟨xd, rfl, _⟩ := HXx.out.cells.2 0 (by omega)
      obtain ⟨yd, rfl, _⟩ := HYy.out.cells.2 0 (by omega)
      obtain ⟨t, ht⟩ : ∃ t, 512 * bn = t := ⟨_, rfl⟩
      have q0 : 512 * (bn : Int) = (t : Int) := by omega
      have HTt := Lib.hid ht
      rw [ht] at hnx hny
      have HSX := Lib.hid (HXx.out.sub (c' := c - t) hnx)
      have HSY := Lib.hid (HYy.out.sub (c' := d - t) hny)
      have q1 : IntKind.i64.wrap ((t : Int) + 512) = (t : Int) + 512 := IntWalk.i64_in _ (by omega)
      have q2 : ((t : Int) + 512).toNat = t + 512 := by omega
      have q3 : max ((t : Int) + 512) 0 = (t : Int) + 512 := by omega
      have q4 : ¬ c = t := by omega
      have q5 : ¬ d = t := by omega
      have q6 : (t : Int) + 512 ≤ (c : Int) := by omega
      have q7 : (t : Int) + 512 ≤ (d : Int) := by omega
      have q8 : (0 : Int) ≤ (t : Int) + 512 := by omega
      have q9 : (t : Int) ≤ (t : Int) + 512 := by omega
      have q10 : t + 512 - t = 512 := by omega
      have HP := Lib.hid hp
      clear hp ht
      go_upto_region 5 with fail
      have hbl : ((xs.drop t).take 512).length ≤ 1099511627776 := by rw [List.length_take]; omega
      have HBL := Lib.hid hbl
      clear hbl
      obtain ⟨bb, hbb⟩ : ∃ bb, decide ((xs.drop t).take 512 = (ys.drop t).take 512) = bb := ⟨_, rfl⟩
      have HBB := Lib.hid hbb
      clear hbb
      cases bb with
      | true =>
        go_region_law (go_simp; go_at_call 17; refine (same_at HSX.out HSY.out HBL.out HBB.out _).mono ?_; rintro e w6 ⟨rfl, m6, rfl⟩)
        all_goals
          go_wp2
          go_roundw
          case rel => exact ⟨k + 1, _, hlt, by go_num, by rw [likeB_snoc xs ys ps k _ HP.out, HLK.out]; have h := HBB.out; rw [← HTt.out] at h; exact h, rfl⟩
          case measure => simp [intOf]; omega
      | false =>
        go_region_law (go_simp; go_at_call 17; refine (same_at HSX.out HSY.out HBL.out HBB.out _).mono ?_; rintro e w6 ⟨rfl, m6, rfl⟩)
        all_goals
          go_wp2
          go_ret
          refine ⟨?_, _, rfl⟩
          have h := HBB.out
          rw [← HTt.out] at h
          rw [likeB_false HP.out h]
          rfl
    · obtain rfl : k = ps.length := by omega
      go_wp2
      go_ret
      refine ⟨?_, _, rfl⟩
      have h := HLK.out
      rw [List.take_length] at h
      rw [h]
      rfl
end Go.Proofs.Ytekgdlpicgibhab.EX
