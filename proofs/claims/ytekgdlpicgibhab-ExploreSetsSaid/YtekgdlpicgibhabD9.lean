/-
  ExploreSets, walked.
-/
import Derived.Test.YtekgdlpicgibhabD8
import Derived.Test.YtekgdlpicgibhabE21
import Derived.Deep.DeepCutAuto
namespace Go.Proofs.Ytekgdlpicgibhab.EX
open Go.RowKit Go.Proofs.YtekgdlpicgibhabW.PrintWords Go.MuLone

/-- A slice of writes that reads so. -/
def WrAt (w : World) (A : Option Addr) (ws : List (Int × Int)) : Prop :=
  ∀ k p, ws[k]? = some p → ∃ ad, A = some ad ∧ ad.block < w.heap.size ∧ w.cell? (ad.add (k * 2)) = some (.int .i64 p.1) ∧ w.cell? ⟨(ad.add (k * 2)).block, (ad.add (k * 2)).off + 1, none⟩ = some (.int .u8 p.2)
theorem WrAt.below {w w1 : World} {A : Option Addr} {ws : List (Int × Int)} (h : WrAt w A ws) (hb : Below w.heap.size w w1) : WrAt w1 A ws := fun k p hp => by
  obtain ⟨ad, e, h1, h2, h3⟩ := h k p hp
  exact ⟨ad, e, Nat.lt_of_lt_of_le h1 hb.size, (hb.cell (p := ad.add (k * 2)) (by rw [add_block]; exact h1)).trans h2, (hb.cell (p := ⟨(ad.add (k * 2)).block, (ad.add (k * 2)).off + 1, none⟩) (by show (ad.add (k * 2)).block < _; rw [add_block]; exact h1)).trans h3⟩
/-- The device between two writes. -/
def DS (w W : World) (b g mb gd N k : Nat) : Prop := ∃ m vP T D P, Dev W 0 b g mb m (.slice (some ⟨gd, 0, none⟩) (512 * N) (512 * N)) vP T D P ∧ Below w.heap.size w W ∧ Ok N P ∧ D.length = 512 * N ∧ P.length ≤ k ∧ m ≤ k ∧ Byts D ∧ ∀ p ∈ P, Byts p.2
theorem ListAt.take {w : World} {A : Option Addr} {n c : Nat} {Xs : List (List Int)} (h : ListAt w (.slice A n c) Xs) {m : Nat} (hm : m ≤ Xs.length) : ListAt w (.slice A m c) (Xs.take m) := by
  obtain ⟨A', c', e, h⟩ := h
  cases e
  refine ⟨A, c, by rw [List.length_take, Nat.min_eq_left hm], fun k x hx => h k x ?_⟩
  have hk := (List.getElem?_eq_some_iff.1 hx).1
  rw [List.getElem?_take_of_lt (by simp at hk; omega)] at hx
  exact hx
theorem Rb.far {w w1 : World} {b0 : Nat} {v : Value} {xs : List Int} (h : Rb w b0 v xs) {S : Nat → Prop} (ho : Only S w w1) (hS : ∀ k, S k → k < b0) : Rb w1 b0 v xs :=
  h.keep (fun k hk => ho.block k (h.lt k hk) (fun hs => by have := hS k hs; have := h.base k hk; omega))
set_option maxRecDepth 100000 in
set_option maxHeartbeats 8000000 in
theorem sets_any {w : World} {A C : Option Addr} {cw ck : Nat} {n0 : Int} {ws : List (Int × Int)} {ks : List Bool} (hw : WrAt w A ws) (hk : Bools w w.heap.size C ks) (_hl : ws.length ≤ 140737488355328) (hby : ∀ p ∈ ws, 0 ≤ p.2 ∧ p.2 < 256) (hb64 : ∀ p ∈ ws, -9223372036854775808 ≤ p.1 ∧ p.1 ≤ 9223372036854775807) (_hkl : ks.length ≤ 140737488355328) :
    Calls Try.prog 6 #[.int .i64 n0, .slice A ws.length cw, .slice C ks.length ck] w fun e w' => e = .returned (.bool true) ∧ Below w.heap.size w w' := by
  obtain ⟨hj, hjn⟩ := flipJ_lt n0 (n := 6) (by decide)
  obtain ⟨j0, hj0⟩ : ∃ j0, flipJ 6 n0 = j0 := ⟨_, rfl⟩
  obtain ⟨r, hr⟩ : ∃ r, n0.tmod 6 = r := ⟨_, rfl⟩
  have hr1 : -6 < r := by rw [← hr]; exact Int.lt_tmod_of_pos _ (by omega)
  have hr2 : r < 6 := by rw [← hr]; exact Int.tmod_lt_of_pos _ (by omega)
  have e6 : ((6 : Nat) : Int) = 6 := rfl
  rw [e6, hr, hj0] at hj
  rw [hj0] at hjn
  have HWr := Lib.hid hw
  have HK := Lib.hid hk
  have HBY := Lib.hid hby
  have HB64 := Lib.hid hb64
  clear hw hk hj0 hby hb64 e6
  go_enter Try.func6, Try.ntmps6
  go_wp2_with fail
  refine (known_any _).mono ?_
  rintro e w1 ⟨rfl, hb1⟩
  have HB1 := Lib.hid hb1
  obtain ⟨N, hN⟩ : ∃ N : Nat, N = 1 + j0 := ⟨_, rfl⟩
  have hNi : (1 : Int) + (j0 : Int) = (N : Int) := by omega
  have hN1 : 1 ≤ N := by omega
  have hN6 : N ≤ 6 := by omega
  have hN0 : ¬ N = 0 := by omega
  clear hb1 hN
  go_wp2_with fail
  refine (new_any N hN1 hN6 _).mono ?_
  rintro e w2 ⟨g, mb, gd, rfl, hb2, hd2⟩
  have HB2 : Hid (Below w.heap.size w w2) := HB1.out.trans (hb2.mono HB1.out.size)
  have HDS : Hid (DS w w2 w1.heap.size g mb gd N 0) := ⟨0, _, _, _, _, hd2, HB2.out, fun p hp => by simp at hp, by simp, Nat.le_refl _, Nat.le_refl _, fun x hx => by have := (List.mem_replicate.1 hx).2; omega, fun p hp => by simp at hp⟩
  clear hb2 hd2
  go_wp2
  go_loopw [9] (fun i wr => ∃ k : Nat, k ≤ ws.length ∧ k ≤ 8 ∧ i = .int .i64 k ∧ DS w wr w1.heap.size g mb gd N k) (fun i _ => ws.length - (intOf i).toNat)
  case atStart => exact ⟨0, Nat.zero_le _, Nat.zero_le _, rfl, HDS.out⟩
  case round =>
    obtain ⟨k, hk, hk8, rfl, hds⟩ := hrel
    have HS := Lib.hid hds
    clear hds HDS
    by_cases hlt : k < ws.length ∧ k < 8
    · obtain ⟨hlt, h8⟩ := hlt
      obtain ⟨p, hp⟩ : ∃ p, ws[k]? = some p := ⟨_, List.getElem?_eq_getElem hlt⟩
      obtain ⟨bB, bX⟩ := p
      obtain ⟨m, vP, T, D, P, hd, hb, hok, hDl, hPl, hmk, hbD, hbP⟩ := HS.out
      obtain ⟨ad, rfl, had, z0, z1⟩ := HWr.out k _ hp
      have z0 := (hb.cell (p := ad.add (k * 2)) (by rw [add_block]; exact had)).trans z0
      have z1 := (hb.cell (p := ⟨(ad.add (k * 2)).block, (ad.add (k * 2)).off + 1, none⟩) (by show (ad.add (k * 2)).block < _; rw [add_block]; exact had)).trans z1
      obtain ⟨x0, x1⟩ := HBY.out _ (List.mem_of_getElem? hp)
      obtain ⟨b0, b1⟩ := HB64.out _ (List.mem_of_getElem? hp)
      simp only at z0 z1 x0 x1 b0 b1
      obtain ⟨hj, hjn⟩ := flipJ_lt bB (n := N) (by omega)
      obtain ⟨j1, hj1⟩ : ∃ j1, flipJ N bB = j1 := ⟨_, rfl⟩
      obtain ⟨rB, hrB⟩ : ∃ r, bB.tmod (N : Int) = r := ⟨_, rfl⟩
      have hq1 : -(N : Int) < rB := by rw [← hrB]; exact Int.lt_tmod_of_pos _ (by omega)
      have hq2 : rB < (N : Int) := by rw [← hrB]; exact Int.tmod_lt_of_pos _ (by omega)
      rw [hrB, hj1] at hj
      rw [hj1] at hjn
      have hw1 : IntKind.i64.wrap (rB + (N : Int)) = rB + (N : Int) := IntWalk.i64_in _ (by omega)
      have HD := Lib.hid hd
      have HB := Lib.hid hb
      have HOK := Lib.hid hok
      have HDL := Lib.hid hDl
      have HBD := Lib.hid hbD
      have HBP := Lib.hid hbP
      have hadw : ad.block < wr.heap.size := by have := HB.out.size; omega
      clear hp hd hb hok hDl hj1 hbD hbP
      go_upto_region 9 with fail
      go_cut [] (fun wx => DS w wx w1.heap.size g mb gd N (k + 1))
      case first =>
        have hfl : Hid (∀ q, Calls Try.prog 23 #[.int .u8 bX] (wr.drewN q) (Copied (wr.drewN q) (List.replicate 512 bX))) := fun q => full_any bX _
        go_region_law (first | (go_simp; go_at_call 23; refine (hfl.out _).mono ?_; rintro e w4 ⟨v4, rfl, hR4, hb4⟩; obtain ⟨A4, c4, e4⟩ := Kd.R_slice hR4; rw [List.length_replicate] at e4; subst e4; have hb5 := (pw_below_drewN (Below.refl wr.heap.size wr) _).trans hb4; have z0 := (hb5.cell (p := ad.add (k * 2)) (by rw [add_block]; exact hadw)).trans z0; have HR4 := Lib.hid hR4; have HB5 := Lib.hid hb5; clear hR4 hb4 hb5) | (go_simp; go_at_call 22; refine (write_any (HD.out.below HB5.out) HDL.out (by omega) (by omega) (by omega) HR4.out (by omega) (by omega)).mono ?_; rintro e w5 ⟨vP5, T5, rfl, hd5, ho5⟩; have HD5 := Lib.hid hd5; have HO5 := Lib.hid ho5; clear hd5 ho5))
        all_goals
          have HN : Hid (DS w w5 w1.heap.size g mb gd N (k + 1)) := by
            refine ⟨m + 1, vP5, T5, D, _, HD5.out, (HB.out.trans (HB5.out.mono HB.out.size)).trans (HO5.out.below ?_ ?_), fun p hp => ?_, HDL.out, by simp; omega, by omega, HBD.out, fun p hp => ?_⟩
            · exact Nat.le_trans HB.out.size HB5.out.size
            · intro q hq
              have h1 := ((HD.out.below HB5.out).lt q hq).1
              have h2 := HB1.out.size
              omega
            · rcases List.mem_append.1 hp with hp | hp
              · exact HOK.out p hp
              · rw [List.mem_singleton.1 hp]
                exact ⟨by simp only; omega, by simp only; omega, by simp⟩
            · rcases List.mem_append.1 hp with hp | hp
              · exact HBP.out p hp
              · rw [List.mem_singleton.1 hp]
                intro x hx
                have := (List.mem_replicate.1 hx).2
                omega
          go_wp2_with fail
          go_meet
          exact HN.out
      case rest =>
        rename World => wx
        have HC := Lib.hid hcut
        have hm5 : (k : Int).tmod 5 = ((k % 5 : Nat) : Int) := rfl
        obtain ⟨r5, hr5⟩ : ∃ r5, k % 5 = r5 := ⟨_, rfl⟩
        rw [hr5] at hm5
        clear hcut hr5 z0 z1
        by_cases h4 : r5 = 4
        · have h4b : ((r5 : Int) == 4) = true := beq_iff_eq.2 (by omega)
          obtain ⟨m', vP', T', D', P', hd', hb', hok', hDl', hPl', hmk', hbD', hbP'⟩ := HC.out
          have HFL := Lib.hid (flush_any hd' hDl' (by omega) hok' (by omega))
          have HD' := Lib.hid hd'
          have HB' := Lib.hid hb'
          have HDN : Hid ((keepK D' P' (fun _ => true) P'.length).length = 512 * N) := keepK_len hDl' hok' _ _
          have HBN : Hid (Byts (keepK D' P' (fun _ => true) P'.length)) := keepK_byts hbD' hbP' _ _
          clear hd' hb' hok' hDl' hbD' hbP'
          go_wp2_with fail
          refine HFL.out.mono ?_
          rintro e w7 ⟨rfl, hd7, ho7⟩
          have HN : Hid (DS w w7 w1.heap.size g mb gd N (k + 1)) := ⟨m', _, _, _, _, hd7, HB'.out.trans (ho7.below HB'.out.size (fun q hq => by
            have h1 := (HD'.out.lt q hq).1
            have h2 := HB1.out.size
            omega)), fun p hp => by simp at hp, HDN.out, by simp, hmk', HBN.out, fun p hp => by simp at hp⟩
          clear hd7 ho7
          go_wp2
          go_roundw
          case rel => exact ⟨k + 1, hlt, by omega, by go_num, HN.out⟩
          case measure => simp [intOf]; omega
        · have h4b : ((r5 : Int) == 4) = false := beq_eq_false_iff_ne.2 (by omega)
          go_wp2
          go_roundw
          case rel => exact ⟨k + 1, hlt, by omega, by go_num, HC.out⟩
          case measure => simp [intOf]; omega
    · obtain ⟨m, vP, T, D, P, hd, hb, hok, hDl, hPl, hmk, hbD, hbP⟩ := HS.out
      have HD := Lib.hid hd
      have HB := Lib.hid hb
      have HOK := Lib.hid hok
      have HDL := Lib.hid hDl
      have HBD := Lib.hid hbD
      have HBP := Lib.hid hbP
      have hPL8 : P.length ≤ 8 := by omega
      have HERR : Hid (errno D.length P = 0) := errno_sets hDl hN1 hN6 hok hPL8
      have hex : (ws.length ≤ k) ∨ (k < ws.length ∧ 8 ≤ k) := by omega
      clear hd hb hok hDl hbD hbP HS hmk hPl hlt
      rcases hex with hex | ⟨hex, h8⟩
      all_goals
        go_wp2_with fail
        refine (durable_any HD.out (by rw [HDL.out]; omega)).mono ?_
        rintro e w3 ⟨v3, rfl, hR3, hd3, ho3⟩
        have HR3 := Lib.hid hR3
        have HD3 := Lib.hid hd3
        have HB3 : Hid (Below w.heap.size w w3) := HB.out.trans (ho3.below HB.out.size (fun q hq => by
          have h1 := (HD.out.lt q hq).1
          have h2 := HB1.out.size
          omega))
        have HLT3 : Hid (∀ q, devS g mb (.slice (some ⟨gd, 0, none⟩) (512 * N) (512 * N)) vP q → q < wr.heap.size) := fun q hq => (HD.out.lt q hq).2
        clear hR3 hd3 ho3
        go_wp2_with fail
        refine (pending_any HD3.out (fun p hp => by have := (HOK.out p hp).2.2; omega) (by omega)).mono ?_
        rintro e w4 ⟨v4, T4, rfl, hP4, hd4, ho4⟩
        have HP4 := Lib.hid hP4
        have HD4 := Lib.hid hd4
        have HR4 : Hid (Rb w4 wr.heap.size v3 D) := HR3.out.far ho4 HLT3.out
        have HB4 : Hid (Below w.heap.size w w4) := HB3.out.trans (ho4.below HB3.out.size (fun q hq => by
          have h1 := (HD.out.lt q hq).1
          have h2 := HB1.out.size
          omega))
        clear hP4 hd4 ho4
        obtain ⟨A3, c3, e3⟩ := Kd.R_slice HR4.out
        subst e3
        obtain ⟨A4, c4, e4⟩ := Kd.R_slice HP4.out.row
        rw [HP4.out.len] at e4
        subst e4
        go_wp2_with fail
        refine (images_any HR4.out.rd HP4.out.pend (by rw [HDL.out]; omega) (by omega) (fun p hp => by have := (HOK.out p hp).2.2; omega) (fun p hp => by have h1 := HOK.out p hp; omega) HBD.out HBP.out).mono ?_
        rintro e w5 ⟨v5, L, rfl, hI5, hb5⟩
        rw [HERR.out]
        obtain ⟨A5, c5, e5⟩ := Kd.R_slice hI5.row
        rw [hI5.len] at e5
        subst e5
        have HI5 := Lib.hid hI5
        have HD5 := Lib.hid (HD4.out.below hb5)
        have HP5 := Lib.hid (HP4.out.below hb5)
        have HR5 := Lib.hid (HR4.out.below hb5)
        have HB5 : Hid (Below w.heap.size w w5) := HB4.out.trans (hb5.mono HB4.out.size)
        have HLT5 : Hid (∀ q, devS g mb (.slice (some ⟨gd, 0, none⟩) (512 * N) (512 * N)) vP q → q < w4.heap.size) := fun q hq => (HD4.out.lt q hq).2
        have HL5 := Lib.hid hI5.list
        have HSX := Lib.hid (sets_images HERR.out)
        have hL256 : (images D P).length ≤ 256 := images_len
        have hL1 : 1 ≤ (images D P).length := (List.getElem?_eq_some_iff.1 HSX.out.head).1
        have HEA : Hid (∀ x ∈ images D P, x.length ≤ 1099511627776) := fun x hx => by rw [images_each hx, HDL.out]; omega
        obtain ⟨X, hX⟩ : ∃ X, images D P = X := ⟨_, rfl⟩
        rw [hX] at HI5 HL5 HSX hL256 hL1 HEA ⊢
        have hcap : X.length ≤ c5 := by have := (Kd.R_reads' HI5.out.row).2.1; have := HI5.out.len; omega
        clear hI5 hb5 hX HR4 HP4 HD4 HB4 HR3 HD3 HB3 HLT3
        go_wp2_with fail
        refine (num_any _ _).mono ?_
        rintro e w6 ⟨rfl, rfl⟩
        go_wp2
        go_loopw [14] (fun i wr => ∃ k q : Nat, k ≤ X.length ∧ i = .int .i64 k ∧ wr = w5.drewN q) (fun i _ => X.length - (intOf i).toNat)
        case atStart => exact ⟨0, 0, Nat.zero_le _, rfl, rfl⟩
        case round =>
          obtain ⟨k, q, hk, rfl, rfl⟩ := hrel
          by_cases hkl : k < X.length
          · obtain ⟨x, hx⟩ : ∃ x, X[k]? = some x := ⟨_, List.getElem?_eq_getElem hkl⟩
            obtain ⟨A9, c9, e9, hX9⟩ := HL5.out
            cases e9
            obtain ⟨ad, A1', c1', rfl, had, hc, hR⟩ := hX9 k x hx
            have hin : Hid (∀ M, Calls Try.prog 27 #[.slice (some ad) k c5, .slice A1' x.length c1'] (w5.drewN M) fun e w' => e = .returned (.bool false) ∧ ∃ q, w' = w5.drewN q) := fun M => by
              have h := in_any (HL5.out.take (m := k) (by omega)) hR (fun x hx => HEA.out x (List.mem_of_mem_take hx)) (by rw [List.length_take]; omega) M
              rw [decide_eq_false (nodup_take HSX.out.nodup hx)] at h
              exact h
            have hkc : (k : Int) ≤ (c5 : Int) := by omega
            clear hX9 hx hR
            go_upto_region 20 with fail
            go_region_law (go_simp; go_at_call 27; refine (hin.out _).mono ?_; rintro e w6 ⟨rfl, m6, rfl⟩)
            all_goals
              go_wp2
              go_roundw
              case rel => exact ⟨k + 1, _, hkl, by go_num, rfl⟩
              case measure => simp [intOf]; omega
          · obtain rfl : k = X.length := by omega
            obtain ⟨w6, hw6⟩ : ∃ w6, w5.drewN q = w6 := ⟨_, rfl⟩
            rw [hw6]
            have hb6 : Below w5.heap.size w5 w6 := by rw [← hw6]; exact pw_below_drewN (Below.refl _ _) _
            have HI6 := Lib.hid (HI5.out.below hb6)
            have HD6 := Lib.hid (HD5.out.below hb6)
            have HP6 := Lib.hid (HP5.out.below hb6)
            have HR6 := Lib.hid (HR5.out.below hb6)
            have HB6 : Hid (Below w.heap.size w w6) := HB5.out.trans (hb6.mono HB5.out.size)
            clear hw6 hb6 HI5 HD5 HP5 HR5 HB5 HL5
            go_wp2
            go_loopw [16, 17] (fun s i wr => ∃ k : Nat, k ≤ P.length ∧ i = .int .i64 k ∧ s = .int .i64 ((2 ^ k : Nat) : Int) ∧ wr = w6) (fun _ i _ => P.length - (intOf i).toNat)
            case atStart => exact ⟨0, Nat.zero_le _, rfl, rfl, rfl⟩
            case round =>
              obtain ⟨k, hk, rfl, rfl, hww⟩ := hrel
              have hww2 := hww.symm
              subst hww2
              by_cases hkp : k < P.length
              · have h2 : 2 ^ k ≤ 256 := Nat.le_trans (Nat.pow_le_pow_right (by omega) (by omega : k ≤ 8)) (by decide)
                obtain ⟨S, hS⟩ : ∃ S, 2 ^ k = S := ⟨_, rfl⟩
                have HS2 : Hid (2 ^ (k + 1) = 2 * S) := by show _ = _; rw [Nat.pow_succ, hS, Nat.mul_comm]
                rw [hS] at h2 ⊢
                clear hS
                go_wp2
                go_roundw
                case rel => exact ⟨k + 1, hkp, by go_num, by rw [HS2.out]; go_num, trivial⟩
                case measure => simp [intOf]; omega
              · obtain rfl : k = P.length := by omega
                obtain ⟨SS, hSS⟩ : ∃ SS, 2 ^ P.length = SS := ⟨_, rfl⟩
                have hS256 : SS ≤ 256 := by rw [← hSS]; exact Nat.le_trans (Nat.pow_le_pow_right (by omega) hPL8) (by decide)
                have HSS := Lib.hid hSS
                rw [hSS]
                clear hSS
                go_wp2
                go_loopw [18, 19] (fun la m wr => ∃ mm q : Nat, mm ≤ SS ∧ m = .int .i64 mm ∧ la = .int .i64 q ∧ Last D P X mm q ∧ Below w6.heap.size w6 wr) (fun _ m _ => SS - (intOf m).toNat)
                case atStart => exact ⟨0, 0, Nat.zero_le _, rfl, rfl, ⟨Nat.zero_le _, fun m' i h => by omega⟩, Below.refl _ _⟩
                case round =>
                  obtain ⟨mm, la0, hmm, rfl, rfl, hla, hb⟩ := hrel
                  have HLA := Lib.hid hla
                  have HBm := Lib.hid hb
                  have hla0 : la0 ≤ X.length := hla.1
                  clear hla hb
                  by_cases hms : mm < SS
                  · have HR7 := Lib.hid (HR6.out.below HBm.out)
                    have HP7 := Lib.hid (HP6.out.below HBm.out)
                    have HI7 := Lib.hid (HI6.out.below HBm.out)
                    go_wp2_with fail
                    refine (laid_any HR7.out.rd HP7.out.pend HDL.out HOK.out hN1 (by omega) hPL8).mono ?_
                    rintro e w8 ⟨v8, rfl, hR8, hb8⟩
                    have HI8 := Lib.hid (HI7.out.below hb8)
                    have HL8 := Lib.hid HI8.out.list
                    have HB8 : Hid (Below w6.heap.size w6 w8) := HBm.out.trans (hb8.mono HBm.out.size)
                    have HMEM : Hid (img D P mm ∈ X) := HSX.out.has mm (by rw [HSS.out]; exact hms)
                    obtain ⟨bI, hbI⟩ : ∃ bI, img D P mm = bI := ⟨_, rfl⟩
                    have HBI := Lib.hid hbI
                    rw [hbI] at hR8 HMEM
                    obtain ⟨A8, c8, e8⟩ := Kd.R_slice hR8
                    subst e8
                    have HRd8 := Lib.hid hR8.rd
                    clear hbI hR8 hb8 HR7 HP7 HI7
                    go_wp2
                    go_loopw [18, 21, 22] (fun la fd i ws => ∃ (k q : Nat) (f : Bool), k ≤ X.length ∧ i = .int .i64 k ∧ fd = .bool f ∧ la = .int .i64 ((max la0 k : Nat) : Int) ∧ (f = false → ∀ j x, j < k → X[j]? = some x → x ≠ bI) ∧ (f = true → ∃ j, k = j + 1 ∧ X[j]? = some bI) ∧ ws = w8.drewN q) (fun _ _ i _ => X.length - (intOf i).toNat)
                    case atStart => exact ⟨0, 0, false, Nat.zero_le _, rfl, rfl, by rw [Nat.max_eq_left (Nat.zero_le _)], fun _ j x h => by omega, (fun h => by cases h), rfl⟩
                    case round =>
                      obtain ⟨k, q, f, hk, rfl, rfl, rfl, hf0, hf1, rfl⟩ := hrel
                      have hmx : max la0 k ≤ X.length := by omega
                      obtain ⟨lm, hlm⟩ : ∃ lm, max la0 k = lm := ⟨_, rfl⟩
                      have HLM := Lib.hid hlm
                      rw [hlm] at hmx ⊢
                      clear hlm
                      cases f with
                      | true =>
                        obtain ⟨j, hkj, hXj⟩ := hf1 rfl
                        have HLN : Hid (Last D P X (mm + 1) lm) := by
                          have h := HLA.out.next HSX.out.nodup (j := j) (by rw [HBI.out]; exact hXj)
                          rw [← hkj, HLM.out] at h
                          exact h
                        have HBX : Hid (Below w6.heap.size w6 (w8.drewN q)) := HB8.out.trans ((pw_below_drewN (Below.refl w8.heap.size w8) q).mono HB8.out.size)
                        clear hkj hXj hf0 hf1
                        by_cases hkl : k < X.length
                        all_goals
                          go_wp2
                          go_roundw
                          case rel => exact ⟨mm + 1, lm, hms, by go_num, rfl, HLN.out, HBX.out⟩
                          case measure => simp [intOf]; omega
                      | false =>
                        by_cases hkl : k < X.length
                        · obtain ⟨x, hx⟩ : ∃ x, X[k]? = some x := ⟨_, List.getElem?_eq_getElem hkl⟩
                          obtain ⟨A9, c9, e9, hX9⟩ := HL8.out
                          cases e9
                          obtain ⟨ad, A1', c1', rfl, had, hc, hR⟩ := hX9 k x hx
                          have HXk := Lib.hid hx
                          have HF0 := Lib.hid (hf0 rfl)
                          have HEQ : Hid (max la0 (k + 1) = max lm (k + 1)) := by show _ = _; rw [← HLM.out]; omega
                          have hxl := HEA.out x (List.mem_of_getElem? hx)
                          have hsm : Hid (∀ M, Calls Try.prog 17 #[.slice A1' x.length c1', .slice A8 bI.length c8] (w8.drewN M) fun e w' => e = .returned (.bool (decide (x = bI))) ∧ ∃ q, w' = w8.drewN q) := fun M => same_at hR HRd8.out hxl rfl M
                          obtain ⟨dx, hdx⟩ : ∃ dx, decide (x = bI) = dx := ⟨_, rfl⟩
                          rw [hdx] at hsm
                          have HDX := Lib.hid hdx
                          have HG0 : Hid (dx = false → ∀ j x, j < k + 1 → X[j]? = some x → x ≠ bI) := fun hd j x' hj' hx' => by
                            by_cases ej : j = k
                            · subst ej
                              rw [HXk.out] at hx'
                              cases hx'
                              have h := HDX.out
                              rw [hd] at h
                              exact of_decide_eq_false h
                            · exact HF0.out j x' (by omega) hx'
                          have HG1 : Hid (dx = true → ∃ j, k + 1 = j + 1 ∧ X[j]? = some bI) := fun hd => by
                            have h := HDX.out
                            rw [hd] at h
                            have e := of_decide_eq_true h
                            exact ⟨k, rfl, by rw [HXk.out, e]⟩
                          clear hX9 hx hR hf0 hf1 hdx hxl
                          go_wp2_with (go_at_call 17; refine (hsm.out _).mono ?_; rintro e w6 ⟨rfl, m6, rfl⟩)
                          go_roundw
                          case rel => exact ⟨k + 1, _, dx, hkl, by go_num, rfl, by rw [HEQ.out]; first | rfl | go_num | (congr 1; omega), HG0.out, HG1.out, rfl⟩
                          case measure => simp [intOf]; omega
                        · obtain rfl : k = X.length := by omega
                          exfalso
                          obtain ⟨j, hj⟩ := List.getElem?_of_mem HMEM.out
                          exact hf0 rfl j bI (List.getElem?_eq_some_iff.1 hj).1 hj rfl
                  · obtain rfl : mm = SS := by omega
                    have hfull : la0 = X.length := by
                      have h := HLA.out
                      rw [← HSS.out] at h
                      exact h.full HSX.out
                    subst hfull
                    have HI7 := Lib.hid (HI6.out.below HBm.out)
                    have HR7 := Lib.hid (HR6.out.below HBm.out)
                    have HD7 := Lib.hid (HD6.out.below HBm.out)
                    have HB7 : Hid (Below w.heap.size w wr) := HB6.out.trans (HBm.out.mono HB6.out.size)
                    obtain ⟨s0, hs0⟩ : ∃ s0, L[0]? = some s0 := ⟨_, List.getElem?_eq_getElem (by rw [HI7.out.len]; omega)⟩
                    obtain ⟨X0, hX0, hn0, hR0⟩ := HI7.out.get hs0
                    rw [HSX.out.head] at hX0
                    cases hX0
                    have hrow := HI7.out.row
                    have hrl := HI7.out.len
                    obtain ⟨g5, e5, z5⟩ := Rv.cell hrow hs0
                    subst e5
                    have HR0 : Hid (Rd wr (.slice s0.A s0.n s0.c) D) := hR0.rd
                    have hkb : Bools wr w1.heap.size C ks := fun q hq => by
                      obtain ⟨ad, e, hb, hc⟩ := HK.out q hq
                      exact ⟨ad, e, Nat.lt_of_lt_of_le hb HB1.out.size, (HB7.out.cell (p := ad.add q) (by rw [add_block]; exact hb)).trans hc⟩
                    have HKB := Lib.hid hkb
                    clear hs0 hR0 hn0 hrow hrl hkb
                    go_wp2_with fail
                    refine (same_any HR0.out HR7.out.rd (by rw [HDL.out]; omega)).mono ?_
                    rintro e w8 ⟨rfl, m8, hw8⟩
                    rw [decide_eq_true rfl]
                    have hb8 : Below wr.heap.size wr w8 := by rw [hw8]; exact pw_below_drewN (Below.refl _ _) _
                    have HI8 := Lib.hid (HI7.out.below hb8)
                    have HD8 := Lib.hid (HD7.out.below hb8)
                    have HB8 : Hid (Below w.heap.size w w8) := HB7.out.trans (hb8.mono HB7.out.size)
                    have HKB8 : Hid (Bools w8 w1.heap.size C ks) := fun q hq => by
                      obtain ⟨ad, e, hb, hc⟩ := HK.out q hq
                      exact ⟨ad, e, Nat.lt_of_lt_of_le hb HB1.out.size, (HB8.out.cell (p := ad.add q) (by rw [add_block]; exact hb)).trans hc⟩
                    clear hw8 hb8 z5 HI7 HD7 HR7 HB7 HKB HR0
                    go_wp2_with fail
                    refine (crash_any HD8.out HDL.out (by omega) HOK.out (by omega) HKB8.out).mono ?_
                    rintro e w9 ⟨rfl, hd9, ho9⟩
                    have HD9 := Lib.hid hd9
                    have HI9 : Hid (Im w9 w4.heap.size (.slice (some ⟨g5, 0, none⟩) X.length c5) L X) := HI8.out.only ho9 (fun q hq hs => by have := HLT5.out q hs; omega)
                    have HB9 : Hid (Below w.heap.size w w9) := HB8.out.trans (ho9.below HB8.out.size (fun q hq => by
                      have h1 := (HD8.out.lt q hq).1
                      have h2 := HB1.out.size
                      omega))
                    have HKL : Hid ((keepK D P (fun i => ks.getD i false) P.length).length = 512 * N) := keepK_len HDL.out HOK.out _ _
                    clear hd9 ho9
                    go_wp2_with fail
                    refine (durable_any HD9.out (by rw [HKL.out]; omega)).mono ?_
                    rintro e wa ⟨va, rfl, hRa, hda, hoa⟩
                    have HIa : Hid (ListAt wa (.slice (some ⟨g5, 0, none⟩) X.length c5) X) := (HI9.out.only hoa (fun q hq hs => by
                      have h1 := HLT5.out q (by rcases hs with h | h | h | h; exact .inl h; exact .inr (.inl h); exact .inr (.inr (.inl h)); cases h)
                      omega)).list
                    have HBa : Hid (Below w.heap.size w wa) := HB9.out.trans (hoa.below HB9.out.size (fun q hq => by
                      have h1 := (HD9.out.lt q hq).1
                      have h2 := HB1.out.size
                      omega))
                    obtain ⟨Aa, ca, ea⟩ := Kd.R_slice hRa
                    subst ea
                    have HIN : Hid (Calls Try.prog 27 #[.slice (some ⟨g5, 0, none⟩) X.length c5, .slice Aa (keepK D P (fun i => ks.getD i false) P.length).length ca] wa fun e w' => e = .returned (.bool true) ∧ ∃ k, w' = wa.drewN k) := by
                      have h := in_any HIa.out hRa.rd HEA.out (by omega) 0
                      rw [decide_eq_true (HSX.out.kept _)] at h
                      exact h
                    clear hRa hda hoa
                    go_wp2_with fail
                    refine HIN.out.mono ?_
                    rintro e wb ⟨rfl, mb9, hwb⟩
                    have HBb : Hid (Below w.heap.size w wb) := by show Below _ _ _; rw [hwb]; exact HBa.out.trans ((pw_below_drewN (Below.refl wa.heap.size wa) mb9).mono HBa.out.size)
                    clear hwb
                    go_wp2
                    go_ret
                    exact ⟨rfl, HBb.out⟩
end Go.Proofs.Ytekgdlpicgibhab.EX
