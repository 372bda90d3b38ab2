/-
  survivors, and the function that it makes: the images, one by one.
-/
import Derived.Test.YtekgdlpicgibhabE8
import Derived.Test.YtekgdlpicgibhabE9
import Derived.RangeFuncBound
import Derived.RangeFuncCalls
import Derived.Shelf.Abstract
import Derived.Shelf.RegionOpen
import Derived.OwnWalkIn
import Derived.TacticsInMore
import Derived.LoopNIn
import Derived.LoopIn
import Derived.Laws.CopyOwn
namespace Go.Proofs.Ytekgdlpicgibhab.EX
open Go.RowKit Go.Proofs.YtekgdlpicgibhabW.PrintWords

theorem survivors_any (A C : Option Addr) (n c k kc : Nat) (w : World) : Calls Try.prog 35 #[.slice A n c, .slice C k kc] w fun e w' => ∃ db pb, e = .returned (.func (.func 50) #[] #[.pointer (some ⟨pb, 0, none⟩), .pointer (some ⟨db, 0, none⟩)]) ∧ Below w.heap.size w w' ∧ w.heap.size ≤ db ∧ w.heap.size ≤ pb ∧ w'.heap[db]? = some (.cells #[.slice A n c] 24 (0, 0)) ∧ w'.heap[pb]? = some (.cells #[.slice C k kc] 25 (0, 0)) := by
  go_enter Try.func35, Try.ntmps35
  go_wp2
  go_ret
  refine ⟨w.heap.size, w.heap.size + 1, rfl, below_alloc (below_alloc (Below.refl _ _) _) _, Nat.le_refl _, Nat.le_succ _, ?_, ?_⟩
  · exact (Below.heap_alloc (w.alloc (.cells #[.slice A n c] 24)) (.cells #[.slice C k kc] 25) w.heap.size (by simp)).trans (heap_alloc_new w (.cells #[.slice A n c] 24))
  · have h := heap_alloc_new (w.alloc (.cells #[.slice A n c] 24)) (.cells #[.slice C k kc] 25)
    rw [World.size_alloc] at h
    exact h
set_option maxRecDepth 10000 in
theorem Rb.opened {w : World} {b g n c : Nat} {xs : List Int} (h : Rb w b (.slice (some ⟨g, 0, none⟩) n c) xs) : ∃ cur : List Value, w.heap[g]? = some (.cells cur.toArray 5 (0, 0)) ∧ cur.length = c ∧ n ≤ c ∧ c ≤ maxLen ∧ cur.take n = encs byt xs ∧ b ≤ g ∧ xs.length = n := by
  have hn := (Kd.R_reads' h).1
  have ho := Kd.own_of_R h
  rcases ho.2 with ⟨hv, _⟩ | ⟨g', cap', cur, hv, hb, hh, hnc', hcm, hcs, ht⟩
  · cases hv
  · cases hv
    exact ⟨cur.toList, by simpa using hh, by simpa using hcs, hnc', hcm, by rw [← ht]; congr 1; omega, hb, hn.symm⟩
theorem Rb.shut {w : World} {b g n c : Nat} {xs : List Int} {cur : List Value} (hh : w.heap[g]? = some (.cells cur.toArray 5 (0, 0))) (hc : cur.length = c) (hn : n ≤ c) (hm : c ≤ maxLen) (ht : cur.take n = encs byt xs) (hb : b ≤ g) (hl : xs.length = n) : Rb w b (.slice (some ⟨g, 0, none⟩) n c) xs := by
  subst hl
  refine Kd.R_of_own ⟨by rw [encs_length]; simp, .inr ⟨g, c, cur.toArray, rfl, hb, hh, hn, hm, by simpa using hc, by simpa using ht⟩⟩ (fun _ _ => trivial)
theorem splice_put {cur : List Value} {xs d : List Int} {n t b : Nat} (ht : cur.take n = encs byt xs) (hl : xs.length = n) (hc : n ≤ cur.length) (hd : d.length = 512) (hb : 512 * b + 512 ≤ n) (he : 512 * b = t) : (splice cur t (encs byt d)).take n = encs byt (put xs b d) := by
  subst he
  have hlen : (encs byt d).length = 512 := by rw [encs_length]; exact hd
  apply List.ext_getElem?
  intro j
  by_cases hj : j < n
  · rw [List.getElem?_take_of_lt hj]
    have e2 : (encs byt (put xs b d))[j]? = ((put xs b d)[j]?).map byt := by simp [encs]
    rw [e2, getElem?_put hd (by omega)]
    have e3 : ∀ i, i < n → cur[i]? = (xs[i]?).map byt := fun i hi => by
      have := congrArg (fun l => l[i]?) ht
      simp only [List.getElem?_take_of_lt hi] at this
      rw [this]
      simp [encs]
    unfold splice
    by_cases h1 : j < 512 * b
    · rw [if_neg (by omega), List.getElem?_append_left (by rw [List.length_take]; omega), List.getElem?_take_of_lt h1, e3 j hj]
    · rw [List.getElem?_append_right (by rw [List.length_take]; omega)]
      have el : (cur.take (512 * b)).length = 512 * b := by rw [List.length_take]; omega
      rw [el]
      by_cases h2 : j < 512 * b + 512
      · rw [if_pos ⟨by omega, h2⟩, List.getElem?_append_left (by omega)]
        simp [encs]
      · have e4 : 512 * b + (encs byt d).length + (j - 512 * b - (encs byt d).length) = j := by rw [hlen]; omega
        rw [if_neg (by omega), List.getElem?_append_right (by omega), List.getElem?_drop, e4, ← e3 j hj]
  · rw [List.getElem?_eq_none (by rw [List.length_take]; omega), List.getElem?_eq_none (by rw [encs_length, put_len hd (by omega)]; omega)]
theorem i64_and1 (n : Int) : bits .and .i64 n 1 = n % 2 := by
  have h127 : (BitVec.ofInt 64 1).toNat = 2 ^ 1 - 1 := by decide
  have key : (BitVec.ofInt 64 n &&& BitVec.ofInt 64 1).toNat = (n % ((2 ^ 64 : Nat) : Int)).toNat % 2 ^ 1 := by
    rw [BitVec.toNat_and, BitVec.toNat_ofInt, h127, Nat.and_two_pow_sub_one_eq_mod]
  show IntKind.i64.wrap ((BitVec.ofInt 64 n &&& BitVec.ofInt 64 1).toNat : Nat) = n % 2
  rw [key, IntKind.wrap_i64]
  omega
/-- What the function reads. -/
def Cap (pb db : Nat) (A C : Option Addr) (c kc : Nat) (bs : List Int) (ps : List (Int × List Int)) (W : World) : Prop :=
  W.cell? ⟨pb, 0, none⟩ = some (.slice C ps.length kc) ∧ W.cell? ⟨db, 0, none⟩ = some (.slice A bs.length c) ∧ Rd W (.slice A bs.length c) bs ∧ PendAt W (.slice C ps.length kc) ps
/-- What a round is handed. -/
def Vm (bs : List Int) (ps : List (Int × List Int)) (m : Nat) (v : Value) (W0 W : World) : Prop :=
  ∃ A c, v = .slice A bs.length c ∧ Rb W W0.heap.size v (img bs ps m)
theorem src_cells {W : World} {A : Option Addr} {n c : Nat} {x : List Int} (h : Rd W (.slice A n c) x) (hn : 0 < n) : ∃ ad, A = some ad ∧ ∀ j v, (encs byt x)[j]? = some v → W.cell? (ad.add j) = some v := by
  obtain ⟨h1, h2⟩ := h.cells
  obtain ⟨ad, e, _⟩ := h2 0 hn
  refine ⟨ad, e, fun j v hv => ?_⟩
  have hj : j < x.length := by have := (List.getElem?_eq_some_iff.1 hv).1; rwa [encs_length] at this
  obtain ⟨ad', e', _, hc⟩ := h2 j (by omega)
  rw [e] at e'
  cases e'
  rw [hc]
  simp [encs, List.getElem?_eq_getElem hj] at hv
  simp [List.getD_eq_getElem?_getD, List.getElem?_eq_getElem hj, hv]
theorem isz5 : (Try.prog.info? 5).map (·.size) = some 1 := by kernel_rfl
set_option maxRecDepth 100000 in
set_option maxHeartbeats 4000000 in
theorem iter_any {n pb db N : Nat} {A C : Option Addr} {c kc : Nat} {bs : List Int} {ps : List (Int × List Int)} (hbl : bs.length = 512 * N) (hok : Ok N ps) (hN : N ≤ 4096) (h8 : ps.length ≤ 8) :
    Iter n Try.prog 50 #[.pointer (some ⟨pb, 0, none⟩), .pointer (some ⟨db, 0, none⟩)] (2 ^ ps.length) (Cap pb db A C c kc bs ps) (Vm bs ps) := by
  intro J l W0 hJ hC hY h0
  refine callsIn_wide.2 ?_
  show Calls Try.prog 50 #[.func (.yield l) #[] #[], .pointer (some ⟨pb, 0, none⟩), .pointer (some ⟨db, 0, none⟩)] W0 _
  have HBL := Lib.hid hbl
  have HOK := Lib.hid hok
  have HJ := Lib.hid hJ
  have HC := Lib.hid hC
  have HY := Lib.hid hY
  have H0 := Lib.hid h0
  obtain ⟨x0, x1, _, _⟩ := hC 0 W0 h0
  have he : (2 : Int) ^ ps.length = ((2 ^ ps.length : Nat) : Int) := by rw [Int.natCast_pow]; rfl
  have hS256 : 2 ^ ps.length ≤ 256 := Nat.le_trans (Nat.pow_le_pow_right (by omega) h8) (by decide)
  obtain ⟨SS, hSS⟩ : ∃ SS, 2 ^ ps.length = SS := ⟨_, rfl⟩
  rw [hSS] at he hS256
  have HSS := Lib.hid hSS
  clear hbl hok hJ hC hY h0 hSS
  go_enter Try.func50, Try.ntmps50
  go_wp2
  go_loopw [11] (fun i wr => ∃ m : Nat, m ≤ SS ∧ i = .int .i64 m ∧ J m wr) (fun i _ => SS - (intOf i).toNat)
  case atStart => exact ⟨0, Nat.zero_le _, rfl, H0.out⟩
  case round =>
    obtain ⟨m, hm, rfl, hj⟩ := hrel
    rename World => w1
    have HJm := Lib.hid hj
    obtain ⟨y0, y1, hrd, hpe⟩ := HC.out m w1 hj
    have HRD := Lib.hid hrd
    have HPE := Lib.hid hpe
    clear hj hrd hpe x0 x1
    by_cases hlt : m < SS
    · go_wp2_with fail
      refine (clone_any HRD.out (by have := HBL.out; omega)).mono ?_
      rintro e w3 ⟨v3, rfl, hR3, hb3⟩
      obtain ⟨A3, c3, e3⟩ := Kd.R_slice hR3
      subst e3
      have HR3 := Lib.hid hR3
      have HB3 := Lib.hid hb3
      have y2 := (hb3.cell (World.block_lt_of_cell? w1 _ y0)).trans y0
      clear hR3 hb3
      go_wp2
      go_loopw [18] (fun i ws => ∃ k : Nat, k ≤ ps.length ∧ i = .int .i64 k ∧ Rb ws w1.heap.size (.slice A3 bs.length c3) (imgK bs ps m k) ∧ Below w1.heap.size w1 ws) (fun i _ => ps.length - (intOf i).toNat)
      case atStart => exact ⟨0, Nat.zero_le _, rfl, HR3.out, HB3.out⟩
      case round =>
        obtain ⟨k, hk, rfl, hR, hb⟩ := hrel
        have HR := Lib.hid hR
        have HB := Lib.hid hb
        clear hR hb
        by_cases hkl : k < ps.length
        · obtain ⟨p, hp⟩ : ∃ p, ps[k]? = some p := ⟨_, List.getElem?_eq_getElem hkl⟩
          obtain ⟨bk, x⟩ := p
          obtain ⟨h1, h2, h3⟩ := HOK.out _ (List.mem_of_getElem? hp)
          simp only at h1 h2 h3
          obtain ⟨bn, rfl⟩ := Int.eq_ofNat_of_zero_le h1
          have hpw := HPE.out.below (Nat.le_refl _) HB.out
          obtain ⟨C', kc', eC, hPx⟩ := hpw
          cases eC
          obtain ⟨ad, Ax, cx, rfl, had, hc0, hc1, hRx⟩ := hPx k _ hp
          simp only at hc0 hc1 hRx
          rw [h3] at hc1 hRx
          have hbN : 512 * bn + 512 ≤ bs.length := by
            have h4 : bn + 1 ≤ N := by omega
            have := Nat.mul_le_mul_left 512 h4
            have := HBL.out
            omega
          obtain ⟨g3, hg3⟩ : ∃ g3, A3 = some ⟨g3, 0, none⟩ := by
            have hl := imgK_len HBL.out HOK.out m k
            obtain ⟨ad, e, _⟩ := (Kd.R_reads' HR.out).2.2.2.2 (by rw [hl]; have := HBL.out; omega)
            subst e
            obtain ⟨g3, rfl⟩ := Kd.R_head HR.out
            exact ⟨g3, rfl⟩
          subst hg3
          have hcap := (Kd.R_reads' HR.out).2.1
          have HP := Lib.hid hp
          have HRX := Lib.hid hRx
          have HH3 := Lib.hid h3
          clear hp hRx hPx h3
          go_upto_region 7 with fail
          obtain ⟨W6, hW6⟩ : ∃ W6, wr.alloc (.cells #[.int .i64 (bn : Int), .slice Ax 512 cx] 30) = W6 := ⟨_, rfl⟩
          rw [hW6]
          have hbb : W6.heap[wr.heap.size]? = some (.cells #[.int .i64 (bn : Int), .slice Ax 512 cx] 30 (0, 0)) := by subst hW6; exact heap_alloc_new wr _
          have hB6 : Below wr.heap.size wr W6 := by subst hW6; exact below_alloc (Below.refl _ _) _
          have z0 : W6.cell? ⟨wr.heap.size, 0, none⟩ = some (.int .i64 (bn : Int)) := (blk_cell hbb 0).trans rfl
          have z1 : W6.cell? ⟨wr.heap.size, 1, none⟩ = some (.slice Ax 512 cx) := (blk_cell hbb 1).trans rfl
          have HB6 := Lib.hid hB6
          have HR6 := Lib.hid (HR.out.below hB6)
          have HRX6 := Lib.hid (HRX.out.below (Nat.le_refl _) hB6)
          clear hbb hB6 hW6 hc0 hc1
          have hHB : Hid (Below w1.heap.size w1 W6) := HB.out.trans (HB6.out.mono HB.out.size)
          have hdiv : (m : Int) / 2 ^ k = ((m / 2 ^ k : Nat) : Int) := by
            rw [Int.natCast_ediv, Int.natCast_pow]
            rfl
          obtain ⟨qd, hqd⟩ : ∃ qd, m / 2 ^ k = qd := ⟨_, rfl⟩
          rw [hqd] at hdiv
          have HQD := Lib.hid hqd
          have hand := i64_and1 (qd : Int)
          clear hqd
          by_cases hbit : qd % 2 = 1
          · have tb : bits .and .i64 (qd : Int) 1 = 1 := by rw [hand]; omega
            clear hand
            obtain ⟨t, ht⟩ : ∃ t, bn * 512 = t := ⟨_, rfl⟩
            have q0 : (bn : Int) * 512 = (t : Int) := by omega
            have q1 : ¬ c3 = t := by omega
            have q2 : (t : Int) ≤ (bs.length : Int) := by omega
            have q3 : (t : Int) ≤ (c3 : Int) := by omega
            have q4 : IntKind.i64.wrap (t : Int) = (t : Int) := IntWalk.i64_in _ (by have := HBL.out; omega)
            go_wp2
            obtain ⟨cur, hcur, hcl, hnc, hcm, htk, hbg, hxl⟩ := HR6.out.opened
            have HSRC := Lib.hid (src_cells HRX6.out (by omega))
            have HCUR := Lib.hid hcur
            have hcl2 := Lib.hid hcl
            have hlx : (encs byt x).length = 512 := by rw [encs_length]; exact HH3.out
            have HLX := Lib.hid hlx
            have HTK := Lib.hid htk
            have HXL := Lib.hid hxl
            have HT := Lib.hid ht
            clear hcur hlx hcl htk hxl ht
            go_region_law ((refine step_copy_splice (by rfl) (.tmp 32) (.tmp 34) 24 24 (by rfl) 5 Try.underlying24 isz5 (some ⟨g3, t, none⟩) Ax (bs.length - t) (c3 - t) 512 cx (by rfl) (by rfl) g3 t cur 5 HCUR.out (encs byt x) (by rw [HLX.out]; exact (Nat.min_eq_left (by omega)).symm) (fun _ => ⟨rfl, HSRC.out⟩) (by rw [HLX.out, hcl2.out]; omega) (by intro u hu; simp only [encs, List.mem_map] at hu; obtain ⟨_, _, rfl⟩ := hu; rfl) w1.heap.size w1 (below_drew hHB.out) hbg ?_; intro w9 hg9 hb9; have HB9 := Lib.hid hb9; clear hb9))
            all_goals
              have HNX : Hid (Rb w9 w1.heap.size (.slice (some ⟨g3, 0, none⟩) bs.length c3) (imgK bs ps m (k + 1))) := by
                have e := imgK_yes (bs := bs) HP.out (by rw [HQD.out]; exact hbit)
                simp only [Int.toNat_natCast] at e
                rw [e]
                have hlK : (imgK bs ps m k).length = bs.length := HXL.out
                exact Rb.shut hg9.out (by rw [length_splice _ _ _ (by rw [HLX.out, hcl2.out]; omega)]; exact hcl2.out) hnc hcm (splice_put HTK.out HXL.out (by rw [hcl2.out]; exact hnc) HH3.out hbN (by rw [Nat.mul_comm]; exact HT.out)) hbg (by rw [put_len HH3.out (by rw [hlK]; exact hbN)]; exact hlK)
              go_wp2
              go_roundw
              case rel => exact ⟨k + 1, hkl, by go_num, HNX.out, HB9.out⟩
              case measure => simp [intOf]; omega
          · have tb : bits .and .i64 (qd : Int) 1 = 0 := by rw [hand]; omega
            have HNX : Hid (Rb W6 w1.heap.size (.slice (some ⟨g3, 0, none⟩) bs.length c3) (imgK bs ps m (k + 1))) := by
              have h := HR6.out
              rw [← imgK_no (by rw [HQD.out]; exact hbit)] at h
              exact h
            clear hand
            go_wp2
            go_roundw
            case rel => exact ⟨k + 1, hkl, by go_num, HNX.out, hHB.out⟩
            case measure => simp [intOf]; omega
        · obtain rfl : k = ps.length := by omega
          have hvm : Vm bs ps m (.slice A3 bs.length c3) w1 wr := ⟨A3, c3, rfl, HR.out⟩
          obtain ⟨fn, tmps, assign, body, hy, hRo⟩ := HY.out m (.slice A3 bs.length c3) w1 wr (by rw [HSS.out]; exact hlt) HJm.out HB.out hvm
          have HRo := Lib.hid hRo
          clear hvm hRo
          go_upto_region 10 with fail
          refine (wpIn_wide (n := n + 1)).1 ?_
          gi_wp2
          refine HRo.out.mono ?_
          rintro e W' ⟨rfl, hj'⟩
          have HJ2 := Lib.hid hj'
          clear hj' hy
          gi_wp2
          go_wp2
          go_roundw
          case rel => exact ⟨m + 1, hlt, by go_num, HJ2.out⟩
          case measure => simp [intOf]; omega
    · obtain rfl : m = SS := by omega
      go_wp2
      exact ⟨rfl, _, results_none rfl _ _ _, ⟨_, rfl⟩, by rw [HSS.out]; exact HJm.out⟩
end Go.Proofs.Ytekgdlpicgibhab.EX
