/-
  The document's Images, by its walk.
-/
import Derived.Test.YtekgdlpicgibhabE7
import Derived.IntWalk
namespace Go.Proofs.Ytekgdlpicgibhab.EX
open Go.RowKit Go.Proofs.YtekgdlpicgibhabW.PrintWords

/-- What Images hands out. -/
def Out (w : World) (bs : List Int) (ps : List (Int × List Int)) (e : Ending) (w' : World) : Prop :=
  ∃ v L, e = .returned (.tuple #[v, .int .i64 (errno bs.length ps)]) ∧ Im w' w.heap.size v L (images bs ps) ∧ Below w.heap.size w w'
theorem Out.no {w w' : World} {bs : List Int} {ps : List (Int × List Int)} {e : Int} (h : errno bs.length ps = e) (h0 : e ≠ 0) (hb : Below w.heap.size w w') : Out w bs ps (.returned (.tuple #[.slice none 0 0, .int .i64 e])) w' := by
  refine ⟨_, [], by rw [h], ?_, hb⟩
  unfold images
  rw [if_neg (by rw [h]; exact h0)]
  exact Im.nil _ _
theorem errno_51 {n : Nat} {ps : List (Int × List Int)} (h : ¬ Sized n) : errno n ps = 51 := by
  unfold errno
  exact if_pos h
theorem errno_fault {n : Nat} {ps : List (Int × List Int)} {e : Int} (h : Sized n) (hf : fault (n / 512) ps = some e) : errno n ps = e := by
  unfold errno
  rw [if_neg (by unfold Sized at h; omega), hf]
theorem errno_many {n : Nat} {ps : List (Int × List Int)} (h : Sized n) (hf : fault (n / 512) ps = none) (hm : 8 < ps.length ∨ 131072 < n / 512 * 2 ^ ps.length) : errno n ps = 261 := by
  unfold errno
  rw [if_neg (by unfold Sized at h; omega), hf]
  exact if_pos hm
theorem errno_ok {n : Nat} {ps : List (Int × List Int)} (h : Sized n) (hf : fault (n / 512) ps = none) (hm : ¬ (8 < ps.length ∨ 131072 < n / 512 * 2 ^ ps.length)) : errno n ps = 0 := by
  unfold errno
  rw [if_neg (by unfold Sized at h; omega), hf]
  exact if_neg hm
theorem fault_at {N : Nat} {ps : List (Int × List Int)} {k : Nat} {p : Int × List Int} (hp : ps[k]? = some p) (hf : fault N (ps.take k) = none) {e : Int} (he : fault N [p] = some e) : fault N ps = some e := by
  induction ps generalizing k with
  | nil => simp at hp
  | cons q r ih =>
    cases k with
    | zero =>
      simp at hp
      subst hp
      unfold fault at he ⊢
      split at he
      · next h => rw [if_pos h]; exact he
      · next h =>
        rw [if_neg h]
        split at he
        · next h2 => rw [if_pos h2]; exact he
        · simp [fault] at he
    | succ k =>
      rw [List.take_succ_cons] at hf
      unfold fault at hf
      split at hf
      · cases hf
      · next h =>
        split at hf
        · cases hf
        · next h2 =>
          unfold fault
          rw [if_neg h, if_neg h2]
          exact ih (by simpa using hp) hf
theorem fault_next {N : Nat} {ps : List (Int × List Int)} {k : Nat} {p : Int × List Int} (hp : ps[k]? = some p) (hf : fault N (ps.take k) = none) (h1 : 0 ≤ p.1) (h2 : p.1 < N) (h3 : p.2.length = 512) : fault N (ps.take (k + 1)) = none := by
  rw [fault_none] at hf ⊢
  intro q hq
  rw [List.take_add_one, hp] at hq
  rcases List.mem_append.1 hq with hq | hq
  · exact hf q hq
  · simp at hq
    subst hq
    exact ⟨h1, h2, h3⟩
def sets (k : Nat) : Nat := 2 ^ min k 8
theorem sets_le (k : Nat) : sets k ≤ 256 := by
  unfold sets
  exact Nat.pow_le_pow_right (by omega) (Nat.min_le_right _ _)
theorem sets_next {k : Nat} (h : k < 8) : sets (k + 1) = 2 * sets k := by
  unfold sets
  rw [Nat.min_eq_left (by omega), Nat.min_eq_left (by omega), Nat.pow_succ, Nat.mul_comm]
theorem sets_stay {k : Nat} (h : 8 ≤ k) : sets (k + 1) = sets k := by
  unfold sets
  rw [Nat.min_eq_right (by omega), Nat.min_eq_right (by omega)]

theorem bit_int (mm k : Nat) : ((mm : Int) / 2 ^ k).tmod 2 = ((mm / 2 ^ k % 2 : Nat) : Int) := by
  have e : (mm : Int) / 2 ^ k = ((mm / 2 ^ k : Nat) : Int) := by
    rw [Int.natCast_ediv, Int.natCast_pow]
    rfl
  rw [e]
  obtain ⟨q, hq⟩ : ∃ q, mm / 2 ^ k = q := ⟨_, rfl⟩
  rw [hq, Int.tmod_eq_emod_of_nonneg (by omega)]
  omega
theorem imgK_no {bs : List Int} {ps : List (Int × List Int)} {mm k : Nat} (h : mm / 2 ^ k % 2 ≠ 1) : imgK bs ps mm (k + 1) = imgK bs ps mm k := by
  conv => lhs; unfold imgK
  split
  · rfl
  · rw [if_neg h]
theorem imgK_yes {bs : List Int} {ps : List (Int × List Int)} {mm k : Nat} {p : Int × List Int} (hp : ps[k]? = some p) (h : mm / 2 ^ k % 2 = 1) : imgK bs ps mm (k + 1) = put (imgK bs ps mm k) p.1.toNat p.2 := by
  conv => lhs; unfold imgK
  rw [hp]
  simp only
  rw [if_pos h]
/-- The first j bytes of d laid over the block b. -/
def putJ (xs : List Int) (b : Nat) (d : List Int) (j : Nat) : List Int := xs.take (512 * b) ++ d.take j ++ xs.drop (512 * b + j)
theorem putJ_zero (xs : List Int) (b : Nat) (d : List Int) : putJ xs b d 0 = xs := by simp [putJ]
theorem putJ_full (xs : List Int) (b : Nat) (d : List Int) (hd : d.length = 512) : putJ xs b d 512 = put xs b d := by
  unfold putJ put
  rw [List.take_of_length_le (l := d) (by omega)]
theorem putJ_len {xs d : List Int} {b j : Nat} (hd : d.length = 512) (hj : j ≤ 512) (hb : 512 * b + 512 ≤ xs.length) : (putJ xs b d j).length = xs.length := by
  simp [putJ]; omega
theorem putJ_next {xs d : List Int} {b j : Nat} (hd : d.length = 512) (hj : j < 512) (hb : 512 * b + 512 ≤ xs.length) : (putJ xs b d j).set (512 * b + j) (d.getD j 0) = putJ xs b d (j + 1) := by
  unfold putJ
  have hl : (xs.take (512 * b) ++ d.take j).length = 512 * b + j := by simp; omega
  rw [List.set_append_right _ _ (by omega), hl, Nat.sub_self, List.drop_eq_getElem_cons (by omega), List.set_cons_zero, ← take_snoc (by omega), ← List.append_assoc, List.append_assoc _ [d.getD j 0]]
  rfl

set_option maxRecDepth 100000 in
set_option maxHeartbeats 4000000 in
theorem rimages_any {w : World} {A C : Option Addr} {n c k0 kc : Nat} {bs : List Int} {ps : List (Int × List Int)} (hx : Rd w (.slice A n c) bs) (hp : PendAt w (.slice C k0 kc) ps)
    (hn : bs.length ≤ 1048576) (hL : ps.length ≤ 1048576) (hl : ∀ p ∈ ps, p.2.length ≤ 1048576) (hb64 : ∀ p ∈ ps, -9223372036854775808 ≤ p.1 ∧ p.1 ≤ 9223372036854775807) :
    Calls Try.prog 13 #[.slice A n c, .slice C k0 kc] w (Out w bs ps) := by
  have HX := Lib.hid hx
  obtain ⟨C1, kc1, e1, hP⟩ := hp
  cases e1
  have HP := Lib.hid hP
  have hnn := hx.cells.1
  subst hnn
  have HL := Lib.hid hl
  have HB64 := Lib.hid hb64
  clear hP hx hl hb64
  by_cases hsz : Sized bs.length
  · go_enter Try.func13, Try.ntmps13
    go_wp2_with fail
    refine (rimage_yes HX.out hsz).mono ?_
    rintro e w1 ⟨g, rfl, hb1, hd1⟩
    have HB1 := Lib.hid hb1
    have HD1 := Lib.hid hd1
    have HSZ := Lib.hid hsz
    clear hb1 hd1 hsz
    go_wp2
    go_loopw [8, 9] (fun s i wr => ∃ k m : Nat, k ≤ ps.length ∧ i = .int .i64 k ∧ s = .int .i64 (sets k : Nat) ∧ fault (bs.length / 512) (ps.take k) = none ∧ wr = w1.drewN m) (fun _ i _ => ps.length - (intOf i).toNat)
    case atStart => exact ⟨0, 0, Nat.zero_le _, rfl, rfl, rfl, rfl⟩
    case round =>
      obtain ⟨k, m, hk, rfl, rfl, hf, rfl⟩ := hrel
      have HF := Lib.hid hf
      clear hf
      have hs256 := sets_le k
      by_cases hlt : k < ps.length
      · obtain ⟨p, hp⟩ : ∃ p, ps[k]? = some p := ⟨_, List.getElem?_eq_getElem hlt⟩
        obtain ⟨bk, x⟩ := p
        have hmem := List.mem_of_getElem? hp
        obtain ⟨b1, b2⟩ := HB64.out _ hmem
        have hxl := HL.out _ hmem
        obtain ⟨ad, A1', c1', rfl, had, hc0, hc1, _⟩ := HP.out k _ hp
        simp only at b1 b2 hxl hc0 hc1
        have z0 := (HB1.out.cell (p := ad.add (k * 2)) (by rw [add_block]; exact had)).trans hc0
        have z1 := (HB1.out.cell (p := ⟨(ad.add (k * 2)).block, (ad.add (k * 2)).off + 1, none⟩) (by show (ad.add (k * 2)).block < _; rw [add_block]; exact had)).trans hc1
        have HPk := Lib.hid hp
        obtain ⟨N, hN⟩ : ∃ N, bs.length / 512 = N := ⟨_, rfl⟩
        have HNn := Lib.hid hN
        have hrs : Hid (∀ m, Calls Try.prog 37 #[.pointer (some ⟨g, 0, none⟩)] (w1.drewN m) fun e w' => e = .returned (.int .i64 (N : Int)) ∧ w' = w1.drewN m) := fun m => by
          have := rsize_any (HD1.out.below (pw_below_drewN (Below.refl _ w1) m)) (by omega)
          rw [hN] at this
          exact this.mono (fun e w' h => ⟨h.1, h.2.symm⟩)
        clear hp hmem hc0 hc1 hN
        by_cases hneg : bk < 0
        · go_wp2
          go_quiet (fail)
          go_wp2
          go_ret2
          refine Out.no (errno_fault HSZ.out (fault_at (e := 52) HPk.out HF.out (by unfold fault; rw [if_pos (.inl hneg)]))) (by decide) (pw_below_drewN (pw_below_drewN HB1.out m) _)
        · have hge : 0 ≤ bk := by omega
          have hd0 : decide (bk < 0) = false := decide_eq_false hneg
          by_cases hbig : (N : Int) ≤ bk
          · go_wp2
            go_region_law (go_simp; go_at_call 37; refine (hrs.out _).mono ?_; rintro e w' ⟨rfl, rfl⟩)
            all_goals go_wp2
            all_goals go_ret2
            all_goals refine Out.no (errno_fault HSZ.out (fault_at (e := 52) HPk.out HF.out (by unfold fault; rw [if_pos (.inr (by rw [HNn.out]; exact hbig))]))) (by decide) (pw_below_drewN HB1.out _)
          · go_wp2
            go_region_law (go_simp; go_at_call 37; refine (hrs.out _).mono ?_; rintro e w' ⟨rfl, rfl⟩)
            all_goals
              by_cases h512 : x.length = 512
              · have HNX := Lib.hid (fault_next HPk.out HF.out hge (by rw [HNn.out]; simp only; omega) h512)
                by_cases hk8 : k < 8
                · have e2 : ((sets k : Nat) : Int) * 2 = ((sets (k + 1) : Nat) : Int) := by rw [sets_next hk8]; omega
                  go_wp2
                  go_roundw
                  case rel => exact ⟨k + 1, _, hlt, by go_num, by rw [sets_next hk8]; go_num, HNX.out, rfl⟩
                  case measure => simp [intOf]; omega
                · go_wp2
                  go_roundw
                  case rel => exact ⟨k + 1, _, hlt, by go_num, by rw [sets_stay (by omega)], HNX.out, rfl⟩
                  case measure => simp [intOf]; omega
              · have hne : ((x.length : Int) != 512) = true := bne_iff_ne.2 (by omega)
                go_wp2
                go_ret2
                refine Out.no (errno_fault HSZ.out (fault_at (e := 53) HPk.out HF.out (by unfold fault; rw [if_neg (by rw [HNn.out]; simp only; omega), if_pos (by exact h512)]))) (by decide) (pw_below_drewN HB1.out _)
      · obtain rfl : k = ps.length := by omega
        obtain ⟨N, hN⟩ : ∃ N, bs.length / 512 = N := ⟨_, rfl⟩
        have HNn := Lib.hid hN
        have hfa : fault N ps = none := by have h := HF.out; rw [List.take_length, hN] at h; exact h
        have hrs : Hid (∀ m, Calls Try.prog 37 #[.pointer (some ⟨g, 0, none⟩)] (w1.drewN m) fun e w' => e = .returned (.int .i64 (N : Int)) ∧ w' = w1.drewN m) := fun m => by
          have := rsize_any (HD1.out.below (pw_below_drewN (Below.refl _ w1) m)) (by omega)
          rw [hN] at this
          exact this.mono (fun e w' h => ⟨h.1, h.2.symm⟩)
        have hNl : N ≤ 4096 := by have := HSZ.out; unfold Sized at this; omega
        have HFA := Lib.hid hfa
        have HS := Lib.hid (show sets ps.length = 2 ^ min ps.length 8 from rfl)
        clear hfa hN
        by_cases h8 : 8 < ps.length
        · have h8' : (8 : Int) < (ps.length : Int) := by omega
          go_wp2
          go_ret2
          exact Out.no (errno_many HSZ.out (by rw [HNn.out]; exact HFA.out) (.inl h8)) (by decide) (pw_below_drewN HB1.out _)
        · have hd8 : decide ((8 : Int) < (ps.length : Int)) = false := decide_eq_false (by omega)
          have hmb : sets ps.length * N ≤ 256 * 4096 := Nat.mul_le_mul hs256 hNl
          have hmw : IntKind.i64.wrap (((sets ps.length : Nat) : Int) * (N : Int)) = ((sets ps.length * N : Nat) : Int) := by rw [← Int.natCast_mul]; exact IntWalk.i64_in _ (by omega)
          have hs2 : Hid (sets ps.length = 2 ^ ps.length) := by
            have := HS.out
            rw [Nat.min_eq_left (by omega)] at this
            exact this
          obtain ⟨M, hM⟩ : ∃ M, sets ps.length * N = M := ⟨_, rfl⟩
          rw [hM] at hmw hmb
          have HM := Lib.hid hM
          clear hM
          by_cases hmany : 131072 < M
          · have hm2 : (131072 : Int) < (M : Int) := by omega
            go_wp2_with (go_at_call 37; refine (hrs.out _).mono ?_; rintro e w' ⟨rfl, rfl⟩)
            go_ret2
            exact Out.no (errno_many HSZ.out (by rw [HNn.out]; exact HFA.out) (.inr (by rw [HNn.out, ← hs2.out, Nat.mul_comm, HM.out]; exact hmany))) (by decide) (pw_below_drewN HB1.out _)
          · have hm2 : ¬ (131072 : Int) < (M : Int) := by omega
            go_wp2_with (go_at_call 37; refine (hrs.out _).mono ?_; rintro e w' ⟨rfl, rfl⟩)
            have hok : Ok N ps := fault_none.1 HFA.out
            have HOK := Lib.hid hok
            have hbl : bs.length = 512 * N := by have h1 := HSZ.out; have h2 := HNn.out; unfold Sized at h1; omega
            have HBL := Lib.hid hbl
            have hN1 : 1 ≤ N := by have h1 := HSZ.out; have h2 := HNn.out; unfold Sized at h1; omega
            obtain ⟨SS, hSS⟩ : ∃ SS, sets ps.length = SS := ⟨_, rfl⟩
            have HSS := Lib.hid hSS
            rw [hSS] at hs256 ⊢
            clear hok hbl hSS hrs hm2 hmw hmb
            go_loopw [10, 11] (fun v i wr => ∃ (mm : Nat) (L : List Sl), mm ≤ SS ∧ i = .int .i64 mm ∧ Im wr w.heap.size v L (uniq (img bs ps) mm) ∧ Below w.heap.size w wr) (fun _ i _ => SS - (intOf i).toNat)
            case atStart => exact ⟨0, [], Nat.zero_le _, rfl, Im.nil _ _, pw_below_drewN HB1.out m⟩
            case round =>
              obtain ⟨mm, L, hmm, rfl, him, hb⟩ := hrel
              rename World => w2
              obtain ⟨Al, cl, el⟩ := Kd.R_slice him.row
              subst el
              have HIM := Lib.hid him
              have HB := Lib.hid hb
              clear him hb
              by_cases hlt2 : mm < SS
              · have HXr := Lib.hid (HX.out.below (Nat.le_refl _) HB.out)
                go_wp2_with fail
                refine (bytes_any HXr.out (by omega)).mono ?_
                rintro e w3 ⟨v3, rfl, hR3, hb3⟩
                obtain ⟨A3, c3, e3⟩ := Kd.R_slice hR3
                subst e3
                obtain ⟨g3, hg3⟩ : ∃ g3, A3 = some ⟨g3, 0, none⟩ := by
                  obtain ⟨ad, e, _⟩ := (Kd.R_reads' hR3).2.2.2.2 (by have := HBL.out; omega)
                  subst e
                  obtain ⟨g3, rfl⟩ := Kd.R_head hR3
                  exact ⟨g3, rfl⟩
                subst hg3
                have HR3 := Lib.hid hR3
                have HB3 := Lib.hid hb3
                clear hR3 hb3
                go_wp2
                go_loopw [13] (fun i ws => ∃ k : Nat, k ≤ ps.length ∧ i = .int .i64 k ∧ Rb ws w2.heap.size (.slice (some ⟨g3, 0, none⟩) bs.length c3) (imgK bs ps mm k) ∧ Below w2.heap.size w2 ws) (fun i _ => ps.length - (intOf i).toNat)
                case atStart => exact ⟨0, Nat.zero_le _, rfl, HR3.out, HB3.out⟩
                case round =>
                  obtain ⟨k, hk2, rfl, hR, hb⟩ := hrel
                  have HR := Lib.hid hR
                  have HBr := Lib.hid hb
                  clear hR hb
                  by_cases hkl : k < ps.length
                  · obtain ⟨p, hp⟩ : ∃ p, ps[k]? = some p := ⟨_, List.getElem?_eq_getElem hkl⟩
                    obtain ⟨bk, x⟩ := p
                    obtain ⟨h1, h2, h3⟩ := HOK.out _ (List.mem_of_getElem? hp)
                    simp only at h1 h2 h3
                    obtain ⟨bn, rfl⟩ := Int.eq_ofNat_of_zero_le h1
                    have HPk := Lib.hid hp
                    clear hp
                    by_cases hbit : mm / 2 ^ k % 2 = 1
                    · have tb : ((mm : Int) / 2 ^ k).tmod 2 = 1 := by rw [bit_int]; omega
                      have hlenK := imgK_len HBL.out HOK.out mm k
                      have hbN : 512 * bn + 512 ≤ bs.length := by
                        have h4 : bn + 1 ≤ N := by omega
                        have := Nat.mul_le_mul_left 512 h4
                        have := HBL.out
                        omega
                      obtain ⟨Y, hY⟩ : ∃ Y, imgK bs ps mm k = Y := ⟨_, rfl⟩
                      have HY := Lib.hid hY
                      have hYl : Y.length = bs.length := by rw [← hY, hlenK]; exact HBL.out.symm
                      have HYl := Lib.hid hYl
                      clear hlenK hY hYl
                      go_wp2
                      rename World => w5
                      go_loopw [14] (fun i ws => ∃ j : Nat, j ≤ 512 ∧ i = .int .i64 j ∧ Rb ws w2.heap.size (.slice (some ⟨g3, 0, none⟩) bs.length c3) (putJ Y bn x j) ∧ Below w2.heap.size w2 ws) (fun i _ => 512 - (intOf i).toNat)
                      case atStart => exact ⟨0, by decide, rfl, by rw [putJ_zero, ← HY.out]; exact HR.out, HBr.out⟩
                      case round =>
                        obtain ⟨j, hj, rfl, hR5, hb5⟩ := hrel
                        have HR5 := Lib.hid hR5
                        have HB5 := Lib.hid hb5
                        clear hR5 hb5
                        by_cases hj5 : j < 512
                        · obtain ⟨ad, A1', c1', rfl, had, hc0, hc1, hRx⟩ := HP.out k _ HPk.out
                          simp only at hc0 hc1 hRx
                          obtain ⟨xd, hxA, hxb, hcx⟩ := hRx.cells.2 j (by omega)
                          subst hxA
                          have hbel := HB.out.trans (HB5.out.mono HB.out.size)
                          have z0 := (hbel.cell (p := ad.add (k * 2)) (by rw [add_block]; exact had)).trans hc0
                          have z1 := (hbel.cell (p := ⟨(ad.add (k * 2)).block, (ad.add (k * 2)).off + 1, none⟩) (by show (ad.add (k * 2)).block < _; rw [add_block]; exact had)).trans hc1
                          have z2 := (hbel.cell (p := xd.add j) (by rw [add_block]; exact hxb)).trans hcx
                          obtain ⟨y, hy⟩ : ∃ y, x.getD j 0 = y := ⟨_, rfl⟩
                          rw [hy] at z2
                          have hLn : (putJ Y bn x j).length = bs.length := by rw [putJ_len h3 hj (by rw [HYl.out]; exact hbN)]; exact HYl.out
                          have hcell := Kd.R_cell (d := (0 : Int)) (by rw [hLn]; exact HR5.out) ((512 * bn + j : Nat) : Int) (by omega) (by omega)
                          simp only [Int.toNat_natCast] at hcell
                          obtain ⟨hc5, hf5⟩ := hcell
                          have hput := Kd.R_putn HR5.out ((512 * bn + j : Nat) : Int) y
                          simp only [Int.toNat_natCast] at hput
                          rw [← hy, putJ_next h3 hj5 (by rw [HYl.out]; exact hbN)] at hput
                          obtain ⟨t, ht⟩ : ∃ t, 512 * bn + j = t := ⟨_, rfl⟩
                          have q0 : 512 * (bn : Int) + (j : Int) = (t : Int) := by omega
                          have q1 : IntKind.i64.wrap (512 * (bn : Int)) = 512 * (bn : Int) := IntWalk.i64_in _ (by omega)
                          have q2 : IntKind.i64.wrap (t : Int) = (t : Int) := IntWalk.i64_in _ (by omega)
                          have q3 : (t : Int) < (bs.length : Int) := by omega
                          rw [ht] at hc5 hf5 hput
                          rw [hy] at hput
                          have HPUT := Lib.hid hput
                          have HBN : Hid (Below w2.heap.size w2 (wr.setCell ⟨g3, t, none⟩ (.int .u8 y))) := by
                            have hb5 := HB5.out
                            have hge := HR5.out.base g3 rfl
                            exact ⟨hb5.os, hb5.tape, hb5.output, by simpa using hb5.size, fun i hi => (Below.heap_setCell wr _ _ i (by show i ≠ g3; omega)).trans (hb5.block i hi)⟩
                          clear hput hLn hy hbel hc0 hc1 hRx hcx ht
                          go_wp2
                          go_region_law (fail)
                          all_goals
                            go_wp2
                            go_roundw
                            case rel => exact ⟨j + 1, hj5, by go_num, by first | exact HPUT.out | exact Kd.R_drew HPUT.out | exact Kd.R_drewN HPUT.out _, by first | exact HBN.out | exact below_drew HBN.out | exact pw_below_drewN HBN.out _⟩
                            case measure => simp [intOf]; omega
                        · obtain rfl : j = 512 := by omega
                          have HNX : Hid (Rb wr w2.heap.size (.slice (some ⟨g3, 0, none⟩) bs.length c3) (imgK bs ps mm (k + 1))) := by
                            have h := HR5.out
                            rw [putJ_full _ _ _ h3, ← HY.out] at h
                            have e := imgK_yes (bs := bs) HPk.out hbit
                            simp only [Int.toNat_natCast] at e
                            rw [← e] at h
                            exact h
                          go_wp2
                          go_roundw
                          case rel => exact ⟨k + 1, hkl, by go_num, HNX.out, HB5.out⟩
                          case measure => simp [intOf]; omega
                    · have tb : (((mm : Int) / 2 ^ k).tmod 2 == 1) = false := beq_eq_false_iff_ne.2 (by rw [bit_int]; omega)
                      have HNX : Hid (Rb wr w2.heap.size (.slice (some ⟨g3, 0, none⟩) bs.length c3) (imgK bs ps mm (k + 1))) := by
                        have h := HR.out
                        rw [← imgK_no hbit] at h
                        exact h
                      go_wp2
                      go_roundw
                      case rel => exact ⟨k + 1, hkl, by go_num, HNX.out, HBr.out⟩
                      case measure => simp [intOf]; omega
                  · obtain rfl : k = ps.length := by omega
                    obtain ⟨w6, hw6⟩ : ∃ w6, wr = w6 := ⟨_, rfl⟩
                    subst hw6
                    rename World => w6
                    have HIM6 := Lib.hid (HIM.out.below HBr.out)
                    have hPend : PendAt w (.slice C ps.length kc) ps := ⟨C, kc, rfl, HP.out⟩
                    have HPE := Lib.hid (hPend.below (Nat.le_refl _) (HB.out.trans (HBr.out.mono HB.out.size)))
                    have hcap3 : bs.length ≤ c3 := (Kd.R_reads' HR.out).2.1
                    have HLi : Hid ((img bs ps mm).length = bs.length) := by have h := img_len HBL.out HOK.out mm; rw [← HBL.out] at h; exact h
                    have HRi : Hid (Rb w6 w2.heap.size (.slice (some ⟨g3, 0, none⟩) bs.length c3) (img bs ps mm)) := HR.out
                    have hLs : L.length ≤ 256 := by have := HIM.out.len; have := uniq_len (img bs ps) mm; omega
                    clear hPend
                    go_wp2
                    go_loopw [15, 16] (fun kv i ws => ∃ (j m : Nat) (kb : Bool), j ≤ L.length ∧ i = .int .i64 j ∧ kv = .bool kb ∧ kb = decide (img bs ps mm ∈ (uniq (img bs ps) mm).take j) ∧ ws = w6.drewN m) (fun _ i _ => L.length - (intOf i).toNat)
                    case atStart => exact ⟨0, 0, false, Nat.zero_le _, rfl, rfl, by simp, rfl⟩
                    case round =>
                      obtain ⟨j, m7, kb, hj, rfl, rfl, hkb, rfl⟩ := hrel
                      have HKB := Lib.hid hkb
                      clear hkb
                      by_cases hgo : j < L.length ∧ kb = false
                      · obtain ⟨hjL, rfl⟩ := hgo
                        obtain ⟨s, hs⟩ : ∃ s, L[j]? = some s := ⟨_, List.getElem?_eq_getElem hjL⟩
                        obtain ⟨X, hX, hsn, hsR⟩ := HIM6.out.get hs
                        obtain ⟨gl, hAl, z0⟩ := HIM6.out.row.cell hs
                        subst hAl
                        obtain ⟨i2, hi2, hXi⟩ := uniq_mem (List.mem_of_getElem? hX)
                        obtain ⟨sA, sn, sc⟩ := s
                        simp only at hsn z0
                        have hXl : X.length = 512 * N := by rw [hXi]; exact img_len HBL.out HOK.out i2
                        have hcapS : sn ≤ sc := (Kd.R_reads' hsR).2.1
                        have hlike : Hid (∀ m, Calls Try.prog 38 #[.slice sA sn sc, .slice (some ⟨g3, 0, none⟩) bs.length c3, .slice C ps.length kc] (w6.drewN m) fun e w' => e = .returned (.bool (decide (X = img bs ps mm))) ∧ ∃ k, w' = w6.drewN k) := fun m => by
                          have hrd : Rd w6 (.slice sA sn sc) X := hsR.rd
                          have hrb : Rd w6 (.slice (some ⟨g3, 0, none⟩) bs.length c3) (img bs ps mm) := HRi.out.rd
                          refine (like_any (N := N) (hrd.drewN m) (hrb.drewN m) (HPE.out.drewN m) HOK.out (by omega) (by rw [HLi.out]; have := HBL.out; omega) hcapS hcap3 (by omega) (by have := HBL.out; omega)).mono ?_
                          rintro e w' ⟨rfl, k, rfl⟩
                          refine ⟨?_, _, World.drewN_drewN ..⟩
                          rw [hXi, like_img HBL.out HOK.out]
                        have HX2 := Lib.hid hX
                        have hjL2 : (j : Int) < (L.length : Int) := by omega
                        clear hX hsR hXi hs hsn hXl hcapS hi2
                        go_wp2_with fail
                        refine (hlike.out _).mono ?_
                        rintro e w' ⟨rfl, m8, rfl⟩
                        have hnext : Hid (decide (X = img bs ps mm) = decide (img bs ps mm ∈ (uniq (img bs ps) mm).take (j + 1))) := by
                          have h1 := of_decide_eq_false HKB.out.symm
                          rw [List.take_add_one, HX2.out]
                          have e : (img bs ps mm ∈ (uniq (img bs ps) mm).take j ++ (some X).toList) ↔ X = img bs ps mm := by
                            simp only [List.mem_append, Option.toList_some, List.mem_singleton]
                            constructor
                            · rintro (h | h)
                              · exact (h1 h).elim
                              · exact h.symm
                            · exact fun h => .inr h.symm
                          exact decide_eq_decide.2 e.symm
                        go_wp2
                        go_roundw
                        case rel => exact ⟨j + 1, m8, _, hjL, by go_num, rfl, hnext.out, rfl⟩
                        case measure => simp [intOf]; omega
                      · have hmemiff : Hid (kb = decide (img bs ps mm ∈ uniq (img bs ps) mm)) := by
                          cases kb with
                          | true =>
                            have h := of_decide_eq_true HKB.out.symm
                            exact (decide_eq_true (List.mem_of_mem_take h)).symm
                          | false =>
                            have hjl : j = L.length := by have : ¬ j < L.length := fun h => hgo ⟨h, rfl⟩; omega
                            have h := HKB.out
                            rw [hjl, HIM6.out.len, List.take_length] at h
                            exact h
                        clear HKB
                        have HIM7 := Lib.hid (HIM6.out.below (pw_below_drewN (Below.refl _ w6) m7))
                        have HB7 : Hid (Below w.heap.size w (w6.drewN m7)) := pw_below_drewN (HB.out.trans (HBr.out.mono HB.out.size)) m7
                        cases kb with
                        | true =>
                          have hu : uniq (img bs ps) (mm + 1) = uniq (img bs ps) mm := by
                            conv => lhs; unfold uniq
                            exact if_pos (of_decide_eq_true hmemiff.out.symm)
                          have HN : Hid (Im (w6.drewN m7) w.heap.size (.slice Al L.length cl) L (uniq (img bs ps) (mm + 1))) := by
                            have h := HIM7.out
                            rw [← hu] at h
                            exact h
                          clear hu
                          by_cases hjL : j < L.length
                          · have hjL2 : (j : Int) < (L.length : Int) := by omega
                            go_wp2
                            go_roundw
                            case rel => exact ⟨mm + 1, L, hlt2, by go_num, HN.out, HB7.out⟩
                            case measure => simp [intOf]; omega
                          · have hjL2 : ¬ (j : Int) < (L.length : Int) := by omega
                            go_wp2
                            go_roundw
                            case rel => exact ⟨mm + 1, L, hlt2, by go_num, HN.out, HB7.out⟩
                            case measure => simp [intOf]; omega
                        | false =>
                          obtain rfl : j = L.length := by have : ¬ j < L.length := fun h => hgo ⟨h, rfl⟩; omega
                          have hu : uniq (img bs ps) (mm + 1) = uniq (img bs ps) mm ++ [img bs ps mm] := by
                            conv => lhs; unfold uniq
                            exact if_neg (of_decide_eq_false hmemiff.out.symm)
                          have HU := Lib.hid hu
                          have HR7 := Lib.hid ((HRi.out.below (pw_below_drewN (Below.refl _ w6) m7)).lower HB.out.size)
                          have HFr : Hid (∀ (t g : Nat) (x : Sl), L[t]? = some x → x.val.ownBlock = some g → (Sl.val ⟨some ⟨g3, 0, none⟩, bs.length, c3⟩).ownBlock ≠ some g) := fun t g x hx hg e => by
                            have h1 := HIM.out.lt hx g hg
                            have h2 := HRi.out.base g e
                            omega
                          clear hu
                          go_wp2_with (first | (at_builtin; go_loud (refine Kd.R_append kV (w0 := w6.drewN m7) w.heap.size rfl (.tmp 127) (.tmp 129) 31 24 (.slice none 0 0) 24 rfl Try.underlying31 info24 rfl (by decide) (by decide) (.slice Al L.length cl) L (⟨some ⟨g3, 0, none⟩, bs.length, c3⟩ : Sl) [.slice (some ⟨g3, 0, none⟩) bs.length c3] (fun _ => True) (fun _ => False) rfl rfl (kV_mk rfl) (fun _ hk => hk.elim) (fun _ _ => trivial) HIM7.out.row (Below.refl _ _) HB7.out.size (by omega) ?_); intro v9 w9 hR9 _ hg9 hat9; have HN := Lib.hid (HIM7.out.next (s := ⟨some ⟨g3, 0, none⟩, bs.length, c3⟩) (X := img bs ps mm) HR7.out HLi.out.symm HFr.out hR9 hg9); have HB9 : Hid (Below w.heap.size w w9) := HB7.out.grown hg9 HB7.out.size (fun k hk => Kd.R_base HIM7.out.row k hk); clear hR9 hg9 hat9))
                          go_roundw
                          case rel => exact ⟨mm + 1, _, hlt2, by go_num, by rw [HU.out]; exact HN.out, HB9.out⟩
                          case measure => simp [intOf]; omega
              · obtain rfl : mm = SS := by omega
                go_wp2
                go_ret2
                have he : errno bs.length ps = 0 := errno_ok HSZ.out (by rw [HNn.out]; exact HFA.out) (by rw [HNn.out, ← hs2.out, Nat.mul_comm, HM.out]; omega)
                refine ⟨_, L, by rw [he]; rfl, ?_, HB.out⟩
                unfold images
                rw [if_pos he, ← hs2.out, HSS.out]
                exact HIM.out
  · go_enter Try.func13, Try.ntmps13
    go_wp2_with fail
    refine (rimage_no hsz (by omega)).mono ?_
    rintro e w1 ⟨rfl, rfl⟩
    go_wp2
    go_ret2
    exact Out.no (errno_51 hsz) (by decide) (Below.refl _ _)
end Go.Proofs.Ytekgdlpicgibhab.EX
